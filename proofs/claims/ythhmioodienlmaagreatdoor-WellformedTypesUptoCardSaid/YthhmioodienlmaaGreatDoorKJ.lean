/- Contracts of the program's functions on well-formed types (chapter 8), and parts. -/
import Derived.Test.YthhmioodienlmaaGreatDoorKI
set_option linter.unusedSimpArgs false
set_option linter.unusedVariables false
namespace Go.Proofs.YthhmioodienlmaaGreatDoor
open Go
set_option maxRecDepth 20000
set_option pp.deepTerms false
set_option pp.deepTerms.threshold 6
variable {P : Program} {H : List HO}

theorem syn_parts (t : Ty) (hg : t.good) : Fun Tryz.prog 98 [agg t.enc] (.d (.sl false (t.parts.map Ty.enc))) := by
  have h := hg.len
  refine ACalls.of_awp false Tryz.func98 (by decide) rfl ?_
  simp only [show Tryz.f98.ntmps = 23 from rfl, List.length_cons, List.length_nil, Nat.reduceAdd, Nat.reduceSub, List.replicate, List.cons_append, List.nil_append, agg, List.map_cons, List.map_nil]
  simp only [Ty.enc_eq t, List.map_cons, List.map_nil]
  simp only [go_sem]
  refine call_of (cloneV_ty _ _ (by simp; omega) (Ty.encs_len _)) ?_
  simp only [go_sem]
  refine awp_loop (ι := Nat)
    (fun i => [.any, .ptr 0 0, .any, .vec 1 (t.args.length + i) (t.args.map Ty.enc ++ (t.fields.take i).map (fun f => f.type.enc)), .any, .any, .any, .any, .any, .any, .d (.sl false (t.fields.map Fd.enc)), .d (.int .i64 t.fields.length), .d (.int .i64 i), .any, .any, .any, .any, .any, .any, .any, .any, .any, .any])
    (fun i => [.cells [.d (.int .i64 t.kind), .d (.str t.module), .d (.str t.name), .d (.sl false (t.args.map Ty.enc)), .d (.sl false (t.fields.map Fd.enc))], .tip (t.args.length + i) 5])
    (fun i => t.fields.length - i) (fun i => i ≤ t.fields.length) 0 (Nat.zero_le _) (by simp only [Nat.add_zero, List.take_zero, List.map_nil, List.append_nil, List.length_map]; exact Weak.les (by repeat (first | exact lesA_nil | refine lesA_cons (AV.le_any _) ?_ | refine lesA_cons (AV.le_refl _) ?_ | refine lesA_cons (AV.le_pure rfl) ?_))) ?_
  · intro i hi
    simp only [go_sem]
    refine cnd_lt (fun hlt => ?_) (fun hge => ?_)
    · simp only [go_sem]
      refine res_index rfl rfl (by omega) (map_at Fd.enc hlt) (Fd.enc_len _) ?_
      simp only [go_sem, List.take_of_length_le (Nat.le_of_eq (Fd.enc_len _))]
      refine res_storeAll rfl (by simp [AV.one]) (by simp [Fd.enc_len]) rfl ?_
      simp only [Fd.enc_eq t.fields[i], List.map_cons, List.map_append, go_sem, Ty.enc_take, le_true (Ty.enc_le _ _)]
      rw [oBuildSlice_1 rfl (Ty.enc_len _) (by decide)]
      simp only [go_sem]
      refine aAppend_vec rfl (by simp [Ty.enc_len]) (by decide) rfl (by simp [lim]; omega) ?_
      simp only [go_sem, wrap_succ (i := i) (by omega)]
      refine next_ld (i := i) (i + 1) 2 (by omega) hlt ?_ ?_ (by omega) (by simp) ?_ ?_
      · rfl
      · simp only [List.take_succ_eq_append_getElem hlt, List.map_append, List.map_cons, List.map_nil, List.append_assoc]
        exact (by repeat (first | exact lesA_nil | refine lesA_cons (AV.le_any _) ?_ | refine lesA_cons (AV.le_refl _) ?_ | refine lesA_cons (AV.le_pure rfl) ?_))
      · simp [go_sem]
      · simp [HO.inS, go_sem]
    · simp only [go_sem]
      have : i = t.fields.length := by omega
      subst this
      refine ret_fun rfl ?_ rfl
      simp only [go_sem, List.take_length, Ty.parts, List.map_append, List.map_map]
      rw [normE_map (fun f => f.type.enc_norm)]
      rfl

theorem wel_parts (t : Ty) (hg : t.good) : Fun Tryz.prog 64 [agg t.enc] (.d (.sl false (t.parts.map Ty.enc))) := by
  have h := hg.len
  refine ACalls.of_awp false Tryz.func64 (by decide) rfl ?_
  simp only [show Tryz.f64.ntmps = 23 from rfl, List.length_cons, List.length_nil, Nat.reduceAdd, Nat.reduceSub, List.replicate, List.cons_append, List.nil_append, agg, List.map_cons, List.map_nil]
  simp only [Ty.enc_eq t, List.map_cons, List.map_nil]
  simp only [go_sem]
  refine call_of (cloneV_ty _ _ (by simp; omega) (Ty.encs_len _)) ?_
  simp only [go_sem]
  refine awp_loop (ι := Nat)
    (fun i => [.any, .ptr 0 0, .any, .vec 1 (t.args.length + i) (t.args.map Ty.enc ++ (t.fields.take i).map (fun f => f.type.enc)), .any, .any, .any, .any, .any, .any, .d (.sl false (t.fields.map Fd.enc)), .d (.int .i64 t.fields.length), .d (.int .i64 i), .any, .any, .any, .any, .any, .any, .any, .any, .any, .any])
    (fun i => [.cells [.d (.int .i64 t.kind), .d (.str t.module), .d (.str t.name), .d (.sl false (t.args.map Ty.enc)), .d (.sl false (t.fields.map Fd.enc))], .tip (t.args.length + i) 5])
    (fun i => t.fields.length - i) (fun i => i ≤ t.fields.length) 0 (Nat.zero_le _) (by simp only [Nat.add_zero, List.take_zero, List.map_nil, List.append_nil, List.length_map]; exact Weak.les (by repeat (first | exact lesA_nil | refine lesA_cons (AV.le_any _) ?_ | refine lesA_cons (AV.le_refl _) ?_ | refine lesA_cons (AV.le_pure rfl) ?_))) ?_
  · intro i hi
    simp only [go_sem]
    refine cnd_lt (fun hlt => ?_) (fun hge => ?_)
    · simp only [go_sem]
      refine res_index rfl rfl (by omega) (map_at Fd.enc hlt) (Fd.enc_len _) ?_
      simp only [go_sem, List.take_of_length_le (Nat.le_of_eq (Fd.enc_len _))]
      refine res_storeAll rfl (by simp [AV.one]) (by simp [Fd.enc_len]) rfl ?_
      simp only [Fd.enc_eq t.fields[i], List.map_cons, List.map_append, go_sem, Ty.enc_take, le_true (Ty.enc_le _ _)]
      rw [oBuildSlice_1 rfl (Ty.enc_len _) (by decide)]
      simp only [go_sem]
      refine aAppend_vec rfl (by simp [Ty.enc_len]) (by decide) rfl (by simp [lim]; omega) ?_
      simp only [go_sem, wrap_succ (i := i) (by omega)]
      refine next_ld (i := i) (i + 1) 2 (by omega) hlt ?_ ?_ (by omega) (by simp) ?_ ?_
      · rfl
      · simp only [List.take_succ_eq_append_getElem hlt, List.map_append, List.map_cons, List.map_nil, List.append_assoc]
        exact (by repeat (first | exact lesA_nil | refine lesA_cons (AV.le_any _) ?_ | refine lesA_cons (AV.le_refl _) ?_ | refine lesA_cons (AV.le_pure rfl) ?_))
      · simp [go_sem]
      · simp [HO.inS, go_sem]
    · simp only [go_sem]
      have : i = t.fields.length := by omega
      subst this
      refine ret_fun rfl ?_ rfl
      simp only [go_sem, List.take_length, Ty.parts, List.map_append, List.map_map]
      rw [normE_map (fun f => f.type.enc_norm)]
      rfl

end Go.Proofs.YthhmioodienlmaaGreatDoor

/- Contracts of the program's functions on well-formed types (chapter 8): nodes. -/
namespace Go.Proofs.YthhmioodienlmaaGreatDoor
open Go
set_option maxRecDepth 20000
set_option pp.deepTerms false
set_option pp.deepTerms.threshold 6
variable {P : Program} {H : List HO}

theorem wel_node (env : Env) (vars : List Str) (hg : env.good) (hv : vars.length ≤ 1048576) (t : Ty) : Fun Tryz.prog 63 [.d (.sl false (env.map If.enc)), .d (.sl false (vars.map sE)), agg t.enc] (.d (.int .i64 (node env vars t))) := by
  have hvs : node env vars t = node env vars t := rfl
  generalize hV : node env vars t = v at hvs ⊢
  refine ACalls.of_awp false Tryz.func63 (by decide) rfl ?_
  simp only [show Tryz.f63.ntmps = 41 from rfl, List.length_cons, List.length_nil, Nat.reduceAdd, Nat.reduceSub, List.replicate, List.cons_append, List.nil_append, agg, List.map_cons, List.map_nil]
  simp only [Ty.enc_eq t, List.map_cons, List.map_nil]
  by_cases h9 : t.kind = 9
  · have e9 := eq_true h9
    have e10 : (t.kind = 10) = False := eq_false (by omega)
    simp only [go_sem, e9]
    refine (con_st vars t.name hv).call (by simp only [go_sem]) rfl ?_
    cases hc : vars.contains t.name
    · simp only [go_sem]
      have hn : node env vars t = 4 := if_pos ⟨h9, hc⟩
      rw [← hV, hn]; exact ret_fun rfl (by simp [go_sem]) rfl
    · have hn : node env vars t = 0 := by unfold node; rw [if_neg (fun h => by rw [hc] at h; exact absurd h.2 (by simp)), if_neg (by omega)]
      simp only [go_sem, e10]
      rw [← hV, hn]; exact ret_fun rfl (by simp [go_sem]) rfl
  · by_cases h10 : t.kind = 10
    · have e10 := eq_true h10
      simp only [go_sem, h9, e10]
      refine (env_Type env t.module t.name hg).call (by simp only [go_sem]) (by simp [go_sem, agg]) ?_
      simp only [go_sem, agg]
      refine res_storeAll rfl (by simp [AV.one]) (by simp [TE.enc_len]) rfl ?_
      by_cases h0 : (tyAt env t.module t.name).2.2 = 0
      · have e0 := eq_true h0
        simp only [go_sem, e0, TE.enc_eq, List.map_cons]
        by_cases hl : ((tyAt env t.module t.name).1.params.length : Int) = (t.args.length : Int)
        · have el := eq_true hl
          have hn : node env vars t = 0 := by unfold node; rw [if_neg (fun h => h9 h.1), if_pos h10, if_neg (fun h => h h0), if_neg (fun h => h hl)]
          simp only [go_sem, el]
          rw [← hV, hn]; exact ret_fun rfl (by simp [go_sem]) rfl
        · have hn : node env vars t = 11 := by unfold node; rw [if_neg (fun h => h9 h.1), if_pos h10, if_neg (fun h => h h0), if_pos hl]
          simp only [go_sem, hl]
          rw [← hV, hn]; exact ret_fun rfl (by simp [go_sem]) rfl
      · have hn : node env vars t = (tyAt env t.module t.name).2.2 := by unfold node; rw [if_neg (fun h => h9 h.1), if_pos h10, if_pos h0]
        simp only [go_sem, h0]
        rw [← hV, hn]; exact ret_fun rfl (by simp [go_sem]) rfl
    · have hn : node env vars t = 0 := by unfold node; rw [if_neg (fun h => h9 h.1), if_neg h10]
      simp only [go_sem, h9, h10]
      rw [← hV, hn]; exact ret_fun rfl (by simp [go_sem]) rfl

theorem wel_nodes (env : Env) (vars : List Str) (hg : env.good) (hv : vars.length ≤ 1048576) (t : Ty) (ht : t.good) : Fun Tryz.prog 28 [.d (.sl false (env.map If.enc)), .d (.sl false (vars.map sE)), agg t.enc] (.d (.int .i64 (firstErr (t.nodes.map (node env vars))))) := by
  revert ht
  refine ty_induct (M := fun t => t.good → Fun Tryz.prog 28 [.d (.sl false (env.map If.enc)), .d (.sl false (vars.map sE)), agg t.enc] (.d (.int .i64 (firstErr (t.nodes.map (node env vars)))))) (fun t ih ht => ?_) t
  have hs := ht.2
  have hp := t.parts_le
  have hvs := firstErr_nodes (node env vars) t
  generalize firstErr (t.nodes.map (node env vars)) = v at hvs ⊢
  refine ACalls.of_awp false Tryz.func28 (by decide) rfl ?_
  simp only [show Tryz.f28.ntmps = 33 from rfl, List.length_cons, List.length_nil, Nat.reduceAdd, Nat.reduceSub, List.replicate, List.cons_append, List.nil_append, agg, List.map_cons, List.map_nil]
  simp only [go_sem]
  refine (wel_node env vars hg hv t).call (by simp only [go_sem, agg]) (by simp [go_sem, agg]) ?_
  by_cases hn : node env vars t = 0
  · have hn' := eq_true hn
    simp only [go_sem, hn']
    refine (wel_parts t ht).call (by simp only [go_sem, agg]) (by simp [go_sem, agg]) ?_
    simp only [go_sem]
    rw [hvs, if_pos hn]
    refine awp_loop (ι := Nat) (fun i => [.d (.sl false (env.map If.enc)), .d (.sl false (vars.map sE)), .any, .any, .any, .any, .any, .any, .any, .any, .any, .any, .any, .any, .any, .any, .any, .any, .any, .d (.sl false (t.parts.map Ty.enc)), .d (.int .i64 t.parts.length), .d (.int .i64 i), .any, .any, .any, .any, .any, .any, .any, .any, .any, .any, .any]) (fun _ => []) (fun i => t.parts.length - i)
      (fun i => i ≤ t.parts.length ∧ firstErr (t.parts.map fun p => firstErr (p.nodes.map (node env vars))) = firstErr ((t.parts.drop i).map fun p => firstErr (p.nodes.map (node env vars)))) 0 ⟨by omega, rfl⟩ (Weak.ld 0 (by repeat (first | exact lesA_nil | refine lesA_cons (AV.le_any _) ?_ | refine lesA_cons (AV.le_refl _) ?_ | refine lesA_cons (AV.le_pure rfl) ?_)) (Nat.le_refl _) (by simp) (by simp [go_sem]) (by simp)) ?_
    rintro i ⟨hi, ha⟩
    simp only [go_sem]
    refine cnd_lt (fun hlt => ?_) (fun hge => ?_)
    · have hd := List.drop_eq_getElem_cons hlt
      rw [hd, List.map_cons, firstErr] at ha
      have hm : t.parts[i] ∈ t.parts := List.getElem_mem hlt
      simp only [go_sem]
      refine res_index rfl rfl (by omega) (map_at Ty.enc hlt) (Ty.enc_len _) ?_
      simp only [go_sem, List.take_of_length_le (Nat.le_of_eq (Ty.enc_len _))]
      refine res_storeAll rfl (by simp [AV.one]) (by simp [Ty.enc_len]) rfl ?_
      simp only [go_sem]
      refine (ih _ hm (ht.part hm)).call (by simp only [go_sem, agg]) (by simp [go_sem, agg]) ?_
      by_cases hc : firstErr (t.parts[i].nodes.map (node env vars)) = 0
      · have hc' := eq_true hc
        simp only [go_sem, hc', wrap_succ (i := i) (by omega)]
        refine next_ld (i := i) (i + 1) 0 (by omega) ⟨hlt, by rw [ha, if_pos hc]⟩ rfl (by repeat (first | exact lesA_nil | refine lesA_cons (AV.le_any _) ?_ | refine lesA_cons (AV.le_refl _) ?_ | refine lesA_cons (AV.le_pure rfl) ?_)) (by omega) (by simp) (by simp [go_sem]) (by simp)
      · simp only [go_sem, hc]
        rw [ha, if_neg hc]; exact ret_fun rfl (by simp [go_sem]) rfl
    · simp only [go_sem]
      have hnil : t.parts.drop i = [] := List.drop_eq_nil_of_le hge
      rw [ha, hnil]; exact ret_fun rfl (by simp [go_sem, firstErr]) rfl
  · simp only [go_sem, hn]
    rw [hvs, if_neg hn]; exact ret_fun rfl (by simp [go_sem]) rfl

end Go.Proofs.YthhmioodienlmaaGreatDoor

/- Contracts of the program's functions on the form of types (chapter 4). -/
namespace Go.Proofs.YthhmioodienlmaaGreatDoor
open Go
set_option maxRecDepth 20000
set_option pp.deepTerms false
set_option pp.deepTerms.threshold 6
variable {P : Program} {H : List HO}

theorem syn_TypeDepth (t : Ty) (hg : t.good) : Fun Tryz.prog 60 [agg t.enc] (.d (.int .i64 t.depth)) := by
  revert hg
  refine ty_induct (M := fun t => t.good → Fun Tryz.prog 60 [agg t.enc] (.d (.int .i64 t.depth))) (fun t ih hg => ?_) t
  have hs := hg.2
  have hp := t.parts_le
  have hdp := t.depth_le
  refine ACalls.of_awp false Tryz.func60 (by decide) rfl ?_
  simp only [show Tryz.f60.ntmps = 20 from rfl, List.length_cons, List.length_nil, Nat.reduceAdd, Nat.reduceSub, List.replicate, List.cons_append, List.nil_append, agg, List.map_cons, List.map_nil]
  simp only [go_sem]
  refine (syn_parts t hg).call (by simp only [go_sem, agg]) (by simp [go_sem, agg]) ?_
  simp only [go_sem]
  refine awp_loop (ι := Nat × Nat) (fun x => [.any, .any, .any, .d (.int .i64 x.2), .any, .any, .any, .d (.sl false (t.parts.map Ty.enc)), .d (.int .i64 t.parts.length), .d (.int .i64 x.1), .any, .any, .any, .any, .any, .any, .any, .any, .any, .any]) (fun _ => []) (fun x => t.parts.length - x.1)
    (fun x => x.1 ≤ t.parts.length ∧ max x.2 (maxL ((t.parts.drop x.1).map Ty.depth)) + 1 = t.depth) (0, 0) ⟨by omega, by simp only [List.drop_zero]; have := t.depth_eq; omega⟩ (Weak.ld 0 (by repeat (first | exact lesA_nil | refine lesA_cons (AV.le_any _) ?_ | refine lesA_cons (AV.le_refl _) ?_ | refine lesA_cons (AV.le_pure rfl) ?_)) (Nat.le_refl _) (by simp) (by simp [go_sem]) (by simp)) ?_
  rintro ⟨i, n⟩ ⟨hi, ha⟩
  simp only at hi ha
  simp only [go_sem]
  refine cnd_lt (fun hlt => ?_) (fun hge => ?_)
  · have hd := List.drop_eq_getElem_cons hlt
    rw [hd, List.map_cons, maxL] at ha
    have hm : t.parts[i] ∈ t.parts := List.getElem_mem hlt
    simp only [go_sem]
    refine res_index rfl rfl (by omega) (map_at Ty.enc hlt) (Ty.enc_len _) ?_
    simp only [go_sem, List.take_of_length_le (Nat.le_of_eq (Ty.enc_len _))]
    refine res_storeAll rfl (by simp [AV.one]) (by simp [Ty.enc_len]) rfl ?_
    simp only [go_sem]
    refine (ih _ hm (hg.part hm)).call (by simp only [go_sem, agg]) (by simp [go_sem, agg]) ?_
    simp only [go_sem, wrap_succ (i := i) (by omega)]
    refine next_ld (i := (i, n)) (i + 1, max n t.parts[i].depth) 0 ?_ ⟨hlt, ?_⟩ rfl (by repeat (first | exact lesA_nil | refine lesA_cons (AV.le_any _) ?_ | refine lesA_cons (AV.le_refl _) ?_ | refine lesA_cons (AV.le_pure rfl) ?_)) (by omega) (by simp) (by simp [go_sem]) (by simp)
    · show _ - (i + 1) < _ - i; omega
    · show max (max n t.parts[i].depth) (maxL ((t.parts.drop (i + 1)).map Ty.depth)) + 1 = t.depth; omega
  · simp only [go_sem]
    have hnil : t.parts.drop i = [] := List.drop_eq_nil_of_le hge
    rw [hnil] at ha
    simp only [List.map_nil, maxL] at ha
    have e1 : IntKind.i64.wrap ((n : Int) + 1) = (t.depth : Int) := by rw [wrap_i64 (by omega) (by omega)]; omega
    simp only [go_sem, e1]
    exact ret_fun rfl (by simp [go_sem]) rfl

end Go.Proofs.YthhmioodienlmaaGreatDoor

/- The iterator over the nodes of a type (syntax.types). -/
namespace Go.Proofs.YthhmioodienlmaaGreatDoor
open Go
set_option maxRecDepth 20000
set_option pp.deepTerms false
set_option pp.deepTerms.threshold 6
variable {P : Program} {H : List HO}

/-- a fold that may stop -/
def foldE {α σ ω : Type} (step : σ → α → σ ⊕ ω) : List α → σ → σ ⊕ ω
  | [], s => .inl s
  | x :: l, s => match step s x with | .inl s' => foldE step l s' | .inr o => .inr o
theorem foldE_append {α σ ω : Type} (step : σ → α → σ ⊕ ω) : ∀ (l l' : List α) (s : σ), foldE step (l ++ l') s = match foldE step l s with | .inl s' => foldE step l' s' | .inr o => .inr o
  | [], l', s => by simp [foldE]
  | x :: l, l', s => by
    simp only [List.cons_append, foldE]
    cases step s x with
    | inl s' => exact foldE_append step l l' s'
    | inr o => rfl

/-- the heap behind a step -/
def outE {σ ω : Type} (S : σ → List HO) (F : ω → List HO) (r : List HO) (x : σ ⊕ ω) (v : AV) (H' : List HO) : Prop :=
  match x with | .inl s => v = .d (.bool true) ∧ H' = S s ++ r | .inr o => v = .d (.bool false) ∧ H' = F o ++ r

structure IterOk {σ ω : Type} (S : σ → List HO) (F : ω → List HO) (L : Nat) : Prop where
  len : ∀ s, (S s).length = L
  ok : ∀ s, Hok (S s)
  flen : ∀ o, (F o).length = L
  fok : ∀ o, Hok (F o)

def ROk (L : Nat) (r : List HO) : Prop := ∀ o ∈ r, o.inS (· < L + r.length)

theorem hcells_app {H r : List HO} {i : Nat} {cs : List AV} (h : H[i]? = some (.cells cs)) : hcells (H ++ r) i = some cs := by
  unfold hcells
  rw [List.getElem?_append_left (List.getElem?_eq_some_iff.1 h).1, h]
theorem hcells_own {H r : List HO} {cs : List AV} : hcells (H ++ .cells cs :: r) H.length = some cs := by
  unfold hcells
  rw [List.getElem?_append_right (Nat.le_refl _), Nat.sub_self]
  rfl
theorem Ty.enc_in (t : Ty) (S : Nat → Prop) : HO.inS S (.cells (t.enc.map .d)) := by rw [Ty.enc_eq]; simp [HO.inS, go_sem]
theorem ROk.push {L : Nat} {r : List HO} (h : ROk L r) {o : HO} (ho : o.inS (· < L + r.length + 1)) : ROk L (r ++ [o]) := by
  intro x hx
  simp only [List.mem_append, List.mem_singleton, List.length_append, List.length_singleton] at hx ⊢
  rcases hx with hx | hx
  · exact HO.inS_mono (fun i hi => by omega) (h x hx)
  · subst hx; exact ho

theorem ROk.hok {L : Nat} {A r : List HO} (hr : ROk L r) (hA : A.length = L) (h : Hok A) : Hok (A ++ r) := by
  subst hA
  exact Hok.app h hr
theorem Weak.cut {N : Nat} {x : AV} {A own : List HO} (hx : x.free = true) (hN : N ≤ A.length) (hok : Hok A) : Weak N [x] (A ++ own) [x] A := by
  have h2 := Weak.drop (N := N) (n := A.length) (ts := [x]) (H := A ++ own) hN (by simp) (by simp only [AV.inSs, and_true]; exact AV.free_inS x hx) (by rw [List.take_left]; exact hok)
  rwa [List.take_left] at h2

theorem Weak.cutf {N : Nat} {ts ts' : List AV} {A own : List HO} (h : lesA ts ts') (hx : AV.inSs (· < A.length) ts') (hN : N ≤ A.length) (hok : Hok A) : Weak N ts (A ++ own) ts' A := by
  have h2 := Weak.ld (N := N) (H := A ++ own) A.length h hN (by simp) hx (by rw [List.take_left]; exact hok)
  rwa [List.take_left] at h2
theorem hcells_at' {A r : List HO} {cs : List AV} {n : Nat} (h : A.length = n) : hcells (A ++ .cells cs :: r) n = some cs := by subst h; exact hcells_own

theorem walk_ok {σ ω : Type} {S : σ → List HO} {F : ω → List HO} {L : Nat} (hI : IterOk S F L) (step : σ → Ty → σ ⊕ ω) (y wk id : Nat)
    (hy : ∀ s, (S s)[y]? = some (.cells [.iter id])) (hw : ∀ s, (S s)[wk]? = some (.cells [.fn (.func 100) [] [.ptr y 0, .ptr wk 0]]))
    (hyield : ∀ s t r, t.good → ROk L r → AYield Tryz.prog id [agg t.enc] (S s ++ r) (outE S F r (step s t))) (t : Ty) (ht : t.good) :
    ∀ (s : σ) (r : List HO), ROk L r → ACalls Tryz.prog 100 [agg t.enc, .ptr y 0, .ptr wk 0] (S s ++ r) (outE S F r (foldE step t.nodes s)) := by
  revert ht
  refine ty_induct (M := fun t => t.good → ∀ (s : σ) (r : List HO), ROk L r → ACalls Tryz.prog 100 [agg t.enc, .ptr y 0, .ptr wk 0] (S s ++ r) (outE S F r (foldE step t.nodes s))) (fun t ih ht s r hr => ?_) t
  have hs := ht.2
  have hp := t.parts_le
  obtain ⟨H, hH⟩ : ∃ H, H = S s ++ r := ⟨_, rfl⟩
  rw [← hH]
  have hL : H.length = L + r.length := by rw [hH, List.length_append, hI.len]
  have hyH : H[y]? = some (.cells [.iter id]) := by rw [hH, List.getElem?_append_left (List.getElem?_eq_some_iff.1 (hy s)).1]; exact hy s
  refine ACalls.of_awp false Tryz.func100 (by decide) rfl ?_
  simp only [show Tryz.f100.ntmps = 23 from rfl, List.length_cons, List.length_nil, Nat.reduceAdd, Nat.reduceSub, List.replicate, List.cons_append, List.nil_append, agg, List.map_cons, List.map_nil]
  simp only [go_sem, hcells_app hyH, hcells_own, Ty.enc_take]
  rw [hH, List.append_assoc]
  have hn : t.nodes = t :: t.parts.flatMap Ty.nodes := t.nodes_eq
  refine (hyield s t _ ht (hr.push (t.enc_in _))).mono ?_
  intro v H' ho
  rw [hn]
  simp only [foldE]
  cases hst : step s t with
  | inr o =>
    rw [hst] at ho
    obtain ⟨rfl, rfl⟩ := ho
    simp only [go_sem]
    rw [← List.append_assoc]
    exact ret_ok (x := .d (.bool false)) rfl (.d (.bool false)) (F o ++ r) (Weak.cut rfl (by simp [hI.flen, hI.len]) (hr.hok (hI.flen o) (hI.fok o))) ⟨rfl, rfl⟩
  | inl s' =>
    rw [hst] at ho
    obtain ⟨rfl, rfl⟩ := ho
    simp only [go_sem]
    have e1 : hcells (S s' ++ (r ++ [HO.cells (t.enc.map .d)])) ((S s).length + r.length) = some (t.enc.map .d) := by
      rw [← List.append_assoc]; exact hcells_at' (by simp [hI.len])
    simp only [go_sem, e1, Ty.enc_take]
    refine (syn_parts t ht).call (by simp only [go_sem, agg]) (by simp [go_sem, agg]) ?_
    simp only [go_sem]
    have hwl : ∀ s, wk < (S s ++ r).length := fun s => by have := (List.getElem?_eq_some_iff.1 (hw s)).1; simp only [List.length_append]; omega
    have hN : ∀ x, (S s).length + r.length ≤ (S x ++ r).length := fun x => by simp [hI.len]
    have hown : ∀ q o, (S q ++ (r ++ [o]))[(S q).length + r.length]? = some o := fun q o => by rw [← List.append_assoc, ← List.length_append]; simp
    have hset : ∀ q o o', (S q ++ (r ++ [o])).set ((S q).length + r.length) o' = S q ++ (r ++ [o']) := fun q o o' => by rw [← List.append_assoc, ← List.length_append]; simp
    have hcl : ∀ q cs, hcells (S q ++ (r ++ [.cells cs])) ((S q).length + r.length) = some cs := fun q cs => by rw [← List.append_assoc]; exact hcells_at' (by simp)
    refine awp_loop (ι := Nat × σ) (fun x => [.any, .any, .ptr wk 0, .any, .any, .any, .any, .any, .any, .any, .any, .any, .d (.sl false (t.parts.map Ty.enc)), .d (.int .i64 t.parts.length), .d (.int .i64 x.1), .any, .any, .any, .any, .any, .any, .any, .any]) (fun x => S x.2 ++ r) (fun x => t.parts.length - x.1)
      (fun x => x.1 ≤ t.parts.length ∧ foldE step (t.parts.flatMap Ty.nodes) s' = foldE step ((t.parts.drop x.1).flatMap Ty.nodes) x.2) (0, s') ⟨by omega, rfl⟩ ?_ ?_
    · rw [← List.append_assoc]
      exact Weak.cutf (by repeat (first | exact lesA_nil | refine lesA_cons (AV.le_any _) ?_ | refine lesA_cons (AV.le_refl _) ?_ | refine lesA_cons (AV.le_pure rfl) ?_)) (by simp [go_sem]; have := hwl s; simp [hI.len] at this ⊢; omega) (hN _) (hr.hok (hI.len _) (hI.ok _))
    · rintro ⟨i, q⟩ ⟨hi, ha⟩
      simp only at hi ha
      simp only [go_sem]
      refine cnd_lt (fun hlt => ?_) (fun hge => ?_)
      · have hd := List.drop_eq_getElem_cons hlt
        rw [hd, List.flatMap_cons, foldE_append] at ha
        have hm : t.parts[i] ∈ t.parts := List.getElem_mem hlt
        simp only [go_sem]
        refine res_index rfl rfl (by omega) (map_at Ty.enc hlt) (Ty.enc_len _) ?_
        simp only [go_sem, List.take_of_length_le (Nat.le_of_eq (Ty.enc_len _))]
        refine res_storeAll (hown q _) (by simp [AV.one]) (by simp [Ty.enc_len]) rfl ?_
        simp only [go_sem, hset, hcells_app (hw q), hcl q, Ty.enc_take]
        refine (ih _ hm (ht.part hm) q _ (hr.push (Ty.enc_in _ _))).mono ?_
        intro v H' ho
        cases hf : foldE step t.parts[i].nodes q with
        | inr o =>
          rw [hf] at ho ha
          obtain ⟨rfl, rfl⟩ := ho
          simp only [go_sem]
          rw [← List.append_assoc, ha]
          exact ret_ok (x := .d (.bool false)) rfl (.d (.bool false)) (F o ++ r) (Weak.cut rfl (by simp [hI.flen, hI.len]) (hr.hok (hI.flen o) (hI.fok o))) ⟨rfl, rfl⟩
        | inl q' =>
          rw [hf] at ho ha
          obtain ⟨rfl, rfl⟩ := ho
          simp only [go_sem, wrap_succ (i := i) (by omega)]
          refine ⟨(i + 1, q'), by show _ - (i + 1) < _ - i; omega, ⟨hlt, ha⟩, ?_⟩
          rw [← List.append_assoc]
          exact Weak.cutf (by repeat (first | exact lesA_nil | refine lesA_cons (AV.le_any _) ?_ | refine lesA_cons (AV.le_refl _) ?_ | refine lesA_cons (AV.le_pure rfl) ?_)) (by simp [go_sem]; have := hwl s; simp [hI.len] at this ⊢; omega) (hN _) (hr.hok (hI.len _) (hI.ok _))
      · simp only [go_sem]
        have hnil : t.parts.drop i = [] := List.drop_eq_nil_of_le hge
        rw [hnil] at ha
        rw [ha]
        simp only [List.flatMap_nil, foldE]
        exact ret_ok (x := .d (.bool true)) rfl (.d (.bool true)) (S q ++ r) Weak.refl ⟨rfl, rfl⟩

def leftE {σ ω : Type} (S : σ → List HO) (F : ω → List HO) : σ ⊕ ω → List HO
  | .inl s => S s
  | .inr o => F o

theorem types1_ok {σ ω : Type} {S : σ → List HO} {F : ω → List HO} {L : Nat} (hI : IterOk S F L) (step : σ → Ty → σ ⊕ ω) (b id : Nat) (hid : id < L) (t : Ty) (ht : t.good)
    (hb : ∀ s, (S s)[b]? = some (.cells (t.enc.map .d)))
    (hyield : ∀ s t r, t.good → ROk L r → AYield Tryz.prog id [agg t.enc] (S s ++ r) (outE S F r (step s t))) (s : σ) :
    ACalls Tryz.prog 99 [.iter id, .ptr b 0] (S s) (fun _ H' => H' = leftE S F (foldE step t.nodes s)) := by
  obtain ⟨ex, hex⟩ : ∃ ex : List HO, ex = [.cells [.iter id], .cells [.fn (.func 100) [] [.ptr L 0, .ptr (L + 1) 0]]] := ⟨_, rfl⟩
  have hexl : ex.length = 2 := by rw [hex]; rfl
  have hexr : ROk L ex := by
    rw [hex]
    intro o ho
    simp only [List.mem_cons, List.not_mem_nil, or_false] at ho
    rcases ho with rfl | rfl
    · simp [HO.inS, go_sem, AV.inS, AV.inSs]; omega
    · simp [HO.inS, go_sem, AV.inS, AV.inSs]
  have hI' : IterOk (fun s => S s ++ ex) (fun o => F o ++ ex) (L + 2) := ⟨fun s => by simp [hI.len, hexl], fun s => hexr.hok (hI.len s) (hI.ok s), fun o => by simp [hI.flen, hexl], fun o => hexr.hok (hI.flen o) (hI.fok o)⟩
  have hwalk := fun s => walk_ok hI' step L (L + 1) id (fun s => by simp [hex, List.getElem?_append_right, hI.len]) (fun s => by simp [hex, List.getElem?_append_right, hI.len])
    (fun s t r ht hr => by
      have h1 : ROk L (ex ++ r) := by
        intro o ho
        rcases List.mem_append.1 ho with ho | ho
        · exact HO.inS_mono (fun i hi => by simp only [List.length_append]; omega) (hexr o ho)
        · exact HO.inS_mono (fun i hi => by simp only [List.length_append]; omega) (hr o ho)
      have := hyield s t (ex ++ r) ht h1
      rw [← List.append_assoc] at this
      refine this.mono fun x H' ho => ?_
      revert ho
      cases step s t <;> simp [outE]) t ht s [] (by intro o ho; cases ho)
  simp only [List.append_nil] at hwalk
  refine ACalls.of_awp false Tryz.func99 (by decide) rfl ?_
  simp only [show Tryz.f99.ntmps = 8 from rfl, List.length_cons, List.length_nil, Nat.reduceAdd, Nat.reduceSub, List.replicate, List.cons_append, List.nil_append, agg, List.map_cons, List.map_nil]
  simp only [go_sem]
  simp only [hI.len]
  refine res_store1 (cs := [AV.d (.con .nilFunc)]) (by simp [List.getElem?_append_right, hI.len]) rfl (by simp) ?_
  have hset : ∀ (a b c : HO), (S s ++ [a, b]).set (L + 1) c = S s ++ [a, c] := fun a b c => by rw [List.set_append_right _ _ (by rw [hI.len]; omega), hI.len]; simp
  have h1 : hcells (S s ++ ex) (L + 1) = some [.fn (.func 100) [] [.ptr L 0, .ptr (L + 1) 0]] := by simp [hcells, hex, List.getElem?_append_right, hI.len]
  simp only [go_sem, List.set_cons_zero, hset, ← hex, h1, hcells_app (hb s), Ty.enc_take]
  refine (hwalk s).mono fun x H' ho => ?_
  revert ho
  cases foldE step t.nodes s with
  | inl s' =>
    rintro ⟨rfl, rfl⟩
    simp only [go_sem]
    rw [aret_normal]
    exact ⟨.tup [], S s', Weak.cut rfl (by rw [hI.len]; exact Nat.le_refl _) (hI.ok s'), rfl⟩
  | inr o =>
    rintro ⟨rfl, rfl⟩
    simp only [go_sem]
    rw [aret_normal]
    exact ⟨.tup [], F o, Weak.cut rfl (by rw [hI.flen]; exact Nat.le_refl _) (hI.fok o), rfl⟩

/-- the iterator itself, with the box that it holds -/
theorem types_ok (t : Ty) : ACalls Tryz.prog 61 [.agg (t.enc.map .d)] H (fun x H' => x = .fn (.func 99) [] [.ptr H.length 0] ∧ H' = H ++ [.cells (t.enc.map .d)]) := by
  refine ACalls.of_awp false Tryz.func61 (by decide) rfl ?_
  simp only [show Tryz.f61.ntmps = 4 from rfl, List.length_cons, List.length_nil, Nat.reduceAdd, Nat.reduceSub, List.replicate, List.cons_append, List.nil_append, agg, List.map_cons, List.map_nil]
  simp only [go_sem]
  exact ret_ok rfl _ _ Weak.refl ⟨rfl, rfl⟩

/-- the rule for a loop over the nodes of a type -/
theorem types_loop {σ ω : Type} (A : σ → List HO) (B : ω → List HO) (j : ω → Code) {L : Nat} {TS : List AV} {ps : Array Tmp} {a c : Code} {Q : AQ} (m : Bool) (step : σ → Ty → σ ⊕ ω) (b : Nat) (t : Ty) (ht : t.good) (s : σ)
    (hA : ∀ s, (A s).length = L) (hA' : ∀ s, ∀ o ∈ A s, o.inS (· < L + 1)) (hB : ∀ s, (B s).length = L) (hB' : ∀ s, ∀ o ∈ B s, o.inS (· < L + 1)) (hTS : AV.inSs (· < L + 1) TS) (hps : 1 = ps.size)
    (hb : ∀ s, (A s)[b]? = some (.cells (t.enc.map .d)))
    (hbody : ∀ s u r, u.good → ROk (L + 1) r → awp Tryz.prog m (L + 1 + r.length) a (aRound1 Tryz.prog m L (L + 1 + r.length) TS ps a c (outE (fun s => A s ++ [.loop .ready none TS ps a c]) (fun o => B o ++ [.loop .done (some (j o)) TS ps a c]) r (step s u)))
      (aputs ps.toList [agg u.enc] TS) (A s ++ .loop .ready none TS ps a c :: r))
    (hK : match foldE step t.nodes s with
      | .inl s' => Q .normal TS (A s' ++ [.loop .exhausted none TS ps a c])
      | .inr o => match j o with
        | .ret => Q .ret TS (B o ++ [.loop .exhausted (some (j o)) TS ps a c])
        | .exit i => Q (.exit i) TS (B o ++ [.loop .exhausted (some (j o)) TS ps a c])
        | _ => False) :
    ACalls Tryz.prog 99 [.iter L, .ptr b 0] (A s ++ [.loop .ready none TS ps a c]) (fun _ H2 => aLeft L TS ps a c Q H2) := by
  have hlo : ∀ (st : LoopState) (j : Option Code), HO.inS (· < L + 1) (.loop st j TS ps a c) := fun st j => by simp only [HO.inS]; exact hTS
  have hI : IterOk (fun s => A s ++ [.loop .ready none TS ps a c]) (fun o => B o ++ [.loop .done (some (j o)) TS ps a c]) (L + 1) := by
    refine ⟨fun s => by simp [hA], fun s => ?_, fun o => by simp [hB], fun o => ?_⟩
    · intro x hx
      simp only [List.mem_append, List.mem_singleton, List.length_append, List.length_singleton, hA] at hx ⊢
      rcases hx with hx | rfl
      · exact hA' s x hx
      · exact hlo _ _
    · intro x hx
      simp only [List.mem_append, List.mem_singleton, List.length_append, List.length_singleton, hB] at hx ⊢
      rcases hx with hx | rfl
      · exact hB' o x hx
      · exact hlo _ _
  refine (types1_ok hI step b L (by omega) t ht (fun s => by rw [List.getElem?_append_left (List.getElem?_eq_some_iff.1 (hb s)).1]; exact hb s) (fun s u r hu hr => ?_) s).mono ?_
  · refine AYield.of_awp m (ts := TS) (ps := ps) (a := a) (c := c) (by simp [hA]) hps ?_
    have hlen : (A s ++ [HO.loop .ready none TS ps a c] ++ r).length = L + 1 + r.length := by simp [hA]; omega
    rw [hlen, List.append_assoc]
    exact hbody s u r hu hr
  · intro x H' hH'
    subst hH'
    revert hK
    cases foldE step t.nodes s with
    | inl s' =>
      intro hK
      refine ⟨.ready, none, TS, by simp [leftE, hA], by simp, ?_⟩
      simp only [leftE]
      rw [List.set_append_right _ _ (by rw [hA]; exact Nat.le_refl _), hA, Nat.sub_self]
      exact hK
    | inr o =>
      intro hK
      refine ⟨.done, some (j o), TS, by simp [leftE, hB], by simp, ?_⟩
      simp only [leftE]
      rw [List.set_append_right _ _ (by rw [hB]; exact Nat.le_refl _), hB, Nat.sub_self]
      simp only at hK
      generalize j o = jo at hK ⊢
      cases jo <;> first | exact hK | exact False.elim hK

theorem aputs_one {p : Tmp} {v : AV} {ts : List AV} : aputs [p] [v] ts = ts.set p v := by rfl
theorem aputs_nil {ts : List AV} : aputs [] [] ts = ts := by rfl
theorem aRoundQ_normal {id n : Nat} {ts : List AV} {ps : Array Tmp} {a c : Code} {R : AV → List HO → Prop} {ts2 : List AV} {H2 : List HO} (h : H2[id]? = some (.loop .busy none ts ps a c)) (hr : R (.d (.bool true)) (H2.set id (.loop .ready none ts ps a c))) :
    aRoundQ id n ts ps a c R .normal ts2 H2 := ⟨h, _, Weak.refl, hr⟩
theorem aRound1_normal {m : Bool} {id n : Nat} {ts : List AV} {ps : Array Tmp} {a c : Code} {R : AV → List HO → Prop} {ts1 : List AV} {H1 : List HO} (h : H1[id]? = some (.loop .ready none ts ps a c)) (hr : awp P m n c (aRoundQ id n ts ps a c R) ts1 (H1.set id (.loop .busy none ts ps a c))) :
    aRound1 P m id n ts ps a c R .normal ts1 H1 := ⟨h, hr⟩
theorem aRoundQ_normalW {id n : Nat} {ts : List AV} {ps : Array Tmp} {a c : Code} {R : AV → List HO → Prop} {ts2 : List AV} {H2 H' : List HO} (h : H2[id]? = some (.loop .busy none ts ps a c)) (hw : Weak n [] (H2.set id (.loop .ready none ts ps a c)) [] H') (hr : R (.d (.bool true)) H') :
    aRoundQ id n ts ps a c R .normal ts2 H2 := ⟨h, H', hw, hr⟩
theorem aRoundQ_retW {id n : Nat} {ts : List AV} {ps : Array Tmp} {a c : Code} {R : AV → List HO → Prop} {ts2 : List AV} {H2 H' : List HO} (h : H2[id]? = some (.loop .busy none ts ps a c)) (hw : Weak n [] (H2.set id (.loop .done (some .ret) ts ps a c)) [] H') (hr : R (.d (.bool false)) H') :
    aRoundQ id n ts ps a c R .ret ts2 H2 := ⟨h, H', hw, hr⟩
theorem lesA_nil0 : lesA [] [] := lesA_nil
attribute [go_sem] aputs_one aputs_nil List.set_cons_succ List.set_cons_zero

theorem foldE_count {α : Type} : ∀ (l : List α) (n : Nat), foldE (fun (n : Nat) (_ : α) => (Sum.inl (n + 1) : Nat ⊕ Empty)) l n = .inl (n + l.length)
  | [], n => rfl
  | _ :: l, n => by simp only [foldE]; rw [foldE_count l (n + 1)]; simp; omega
theorem wrap_wrap1 (n : Nat) : IntKind.i64.wrap (IntKind.i64.wrap (n : Int) + 1) = IntKind.i64.wrap ((n + 1 : Nat) : Int) := by
  have hb : IntKind.i64.bits = 64 := rfl
  have hs : IntKind.i64.signed = true := rfl
  unfold IntKind.wrap
  rw [hb, hs]
  simp only [Bool.true_and, decide_eq_true_eq]
  split <;> split <;> split <;> omega

theorem syn_TypeSize (t : Ty) (ht : t.good) : Fun Tryz.prog 59 [agg t.enc] (.d (.int .i64 t.size)) := by
  have hs := ht.2
  refine ACalls.of_awp false Tryz.func59 (by decide) rfl ?_
  simp only [show Tryz.f59.ntmps = 10 from rfl, List.length_cons, List.length_nil, Nat.reduceAdd, Nat.reduceSub, List.replicate, List.cons_append, List.nil_append, agg, List.map_cons, List.map_nil]
  simp only [go_sem]
  refine res_store1 (cs := [AV.d (.int .i64 0)]) rfl rfl (by simp) ?_
  simp only [go_sem, Ty.enc_take]
  refine (types_ok t).mono ?_
  rintro x H' ⟨rfl, rfl⟩
  simp only [go_sem]
  refine types_loop (σ := Nat) (ω := Empty) (fun n => [.cells (t.enc.map .d), .cells [.d (.int .i64 (IntKind.i64.wrap n))], .cells (t.enc.map .d)]) (fun e => nomatch e) (fun e => nomatch e) false (fun n _ => .inl (n + 1)) 2 t ht 0
    (fun _ => rfl) (fun s o ho => ?_) (fun e => nomatch e) (fun e => nomatch e) (by simp [go_sem]) rfl (fun _ => rfl) (fun s u r hu hr => ?_) ?_
  · simp only [List.mem_cons, List.not_mem_nil, or_false] at ho
    rcases ho with rfl | rfl | rfl
    · exact t.enc_in _
    · simp [HO.inS, go_sem]
    · exact t.enc_in _
  · simp only [go_sem]
    refine aRound1_normal rfl ?_
    simp only [go_sem]
    refine res_store1 rfl rfl (by simp) ?_
    simp only [go_sem, wrap_wrap1]
    refine aRoundQ_normal rfl ⟨rfl, ?_⟩
    rfl
  · rw [foldE_count]
    simp only [go_sem]
    have e : IntKind.i64.wrap ((t.nodes.length : Nat) : Int) = (t.size : Int) := by
      rw [wrap_i64 (by omega) (by simp only [Ty.size] at hs; omega)]; rfl
    rw [show Tryz.f59.results.toList = [.tmp 2] from rfl]; refine ret_fun (by simp only [ares, aresL, ares1_cell, ares1_tmp, go_sem]; rfl) ?_ (by simp [go_sem, agg])
    simp [go_sem, e]

def errStep (f : Ty → Int) (_ : Unit) (u : Ty) : Unit ⊕ Int := if f u = 0 then .inl () else .inr (f u)
theorem foldE_err (f : Ty → Int) : ∀ l : List Ty, foldE (errStep f) l () = if firstErr (l.map f) = 0 then .inl () else .inr (firstErr (l.map f))
  | [] => rfl
  | u :: l => by
    simp only [foldE, errStep, List.map_cons, firstErr]
    by_cases h : f u = 0
    · simp only [h, if_true]
      exact foldE_err f l
    · simp only [h, if_false]

theorem syn_CheckType_of (hnode : ∀ u : Ty, u.good → Fun Tryz.prog 62 [agg u.enc] (.d (.int .i64 (tnode u)))) (t : Ty) (ht : t.good) : Fun Tryz.prog 27 [agg t.enc] (.d (.int .i64 (checkTy t))) := by
  refine ACalls.of_awp false Tryz.func27 (by decide) rfl ?_
  simp only [show Tryz.f27.ntmps = 21 from rfl, List.length_cons, List.length_nil, Nat.reduceAdd, Nat.reduceSub, List.replicate, List.cons_append, List.nil_append, agg, List.map_cons, List.map_nil]
  unfold checkTy
  simp only [go_sem, Ty.enc_take]
  refine (syn_TypeSize t ht).call (by simp only [go_sem, agg]) (by simp [go_sem, agg]) ?_
  by_cases h1 : 4096 < (t.size : Int)
  · simp only [go_sem, h1]
    refine res_store1 rfl rfl (by simp) ?_
    simp only [go_sem]
    rw [show Tryz.f27.results.toList = [.cell 2 32] from rfl]; refine ret_fun (by simp only [ares, aresL, ares1_cell, ares1_tmp, go_sem]; rfl) ?_ (by simp [go_sem, agg])
    simp [go_sem]
  · simp only [go_sem, h1, Ty.enc_take]
    refine (syn_TypeDepth t ht).call (by simp only [go_sem, agg]) (by simp [go_sem, agg]) ?_
    by_cases h2 : 32 < (t.depth : Int)
    · simp only [go_sem, h2]
      refine res_store1 rfl rfl (by simp) ?_
      simp only [go_sem]
      rw [show Tryz.f27.results.toList = [.cell 2 32] from rfl]; refine ret_fun (by simp only [ares, aresL, ares1_cell, ares1_tmp, go_sem]; rfl) ?_ (by simp [go_sem, agg])
      simp [go_sem]
    · simp only [go_sem, h2, Ty.enc_take]
      refine (types_ok t).mono ?_
      rintro x H' ⟨rfl, rfl⟩
      simp only [go_sem]
      refine types_loop (σ := Unit) (ω := Int) (fun _ => [.cells (t.enc.map .d), .cells [.d (.int .i64 0)], .cells (t.enc.map .d)]) (fun e => [.cells (t.enc.map .d), .cells [.d (.int .i64 e)], .cells (t.enc.map .d)]) (fun _ => .ret) false (errStep tnode) 2 t ht ()
        (fun _ => rfl) (fun s o ho => ?_) (fun _ => rfl) (fun s o ho => ?_) (by simp [go_sem]) rfl (fun _ => rfl) (fun s u r hu hr => ?_) ?_
      · simp only [List.mem_cons, List.not_mem_nil, or_false] at ho
        rcases ho with rfl | rfl | rfl
        · exact t.enc_in _
        · simp [HO.inS, go_sem]
        · exact t.enc_in _
      · simp only [List.mem_cons, List.not_mem_nil, or_false] at ho
        rcases ho with rfl | rfl | rfl
        · exact t.enc_in _
        · simp [HO.inS, go_sem]
        · exact t.enc_in _
      · simp only [go_sem, agg]
        have hset' : ∀ x y : HO, (r ++ [x]).set r.length y = r ++ [y] := fun x y => by simp
        have hown' : ∀ a b c d x : HO, (a :: b :: c :: d :: (r ++ [x]))[r.length + 4]? = some x := fun a b c d x => by simp
        refine res_storeAll (hown' _ _ _ _ _) (by simp [AV.one]) (by simp [Ty.enc_len]) rfl ?_
        simp only [go_sem, hset']
        refine aRound1_normal rfl ?_
        simp only [go_sem, hcells_own, Ty.enc_take]
        refine (hnode u hu).call (by simp only [go_sem, agg]) (by simp [go_sem, agg]) ?_
        by_cases hz : tnode u = 0
        · have hz' := eq_true hz
          simp only [go_sem, hz']
          refine aRoundQ_normalW rfl (Weak.cutf (A := _ :: _ :: _ :: _ :: r) (own := [_]) lesA_nil (by simp [go_sem]) (by simp; omega) (by
            intro o ho
            simp only [List.mem_cons, List.length_cons] at ho ⊢
            rcases ho with rfl | rfl | rfl | rfl | ho
            · exact t.enc_in _
            · simp [HO.inS, go_sem]
            · exact t.enc_in _
            · simp [HO.inS, go_sem]
            · exact HO.inS_mono (fun i hi => by omega) (hr o ho))) ?_
          simp only [errStep, hz, if_true]
          exact ⟨rfl, rfl⟩
        · simp only [go_sem, hz]
          refine res_store1 rfl rfl (by simp) ?_
          simp only [go_sem]
          refine aRoundQ_retW rfl (Weak.cutf (A := _ :: _ :: _ :: _ :: r) (own := [_]) lesA_nil (by simp [go_sem]) (by simp; omega) (by
            intro o ho
            simp only [List.mem_cons, List.length_cons] at ho ⊢
            rcases ho with rfl | rfl | rfl | rfl | ho
            · exact t.enc_in _
            · simp [HO.inS, go_sem]
            · exact t.enc_in _
            · simp [HO.inS, go_sem]
            · exact HO.inS_mono (fun i hi => by omega) (hr o ho))) ?_
          simp only [errStep, hz, if_false]
          exact ⟨rfl, rfl⟩
      · rw [foldE_err]
        by_cases h0 : firstErr (t.nodes.map tnode) = 0
        · rw [if_pos h0]
          simp only [go_sem]
          refine res_store1 rfl rfl (by simp) ?_
          simp only [go_sem]
          rw [h0]
          rw [show Tryz.f27.results.toList = [.cell 2 32] from rfl]; refine ret_fun (by simp only [ares, aresL, ares1_cell, ares1_tmp, go_sem]; rfl) ?_ (by simp [go_sem, agg])
          simp [go_sem]
        · rw [if_neg h0]
          simp only [go_sem]
          rw [show Tryz.f27.results.toList = [.cell 2 32] from rfl]; refine ret_fun (by simp only [ares, aresL, ares1_cell, ares1_tmp, go_sem]; rfl) ?_ (by simp [go_sem, agg])
          simp [go_sem]

end Go.Proofs.YthhmioodienlmaaGreatDoor

/- Contracts of the program's functions on the form of types (chapter 4): variables, the nodes' closures. -/
namespace Go.Proofs.YthhmioodienlmaaGreatDoor
open Go
set_option maxRecDepth 20000
set_option pp.deepTerms false
set_option pp.deepTerms.threshold 6
variable {P : Program} {H : List HO}

theorem syn_Variable (s : Str) (h : s.length ≤ 1048576) : Fun Tryz.prog 102 [.d (.str s)] (.d (.bool (variable' s))) := by
  refine ACalls.of_awp false Tryz.func102 (by decide) rfl ?_
  simp only [show Tryz.f102.ntmps = 25 from rfl, List.length_cons, List.length_nil, Nat.reduceAdd, Nat.reduceSub, List.replicate, List.cons_append, List.nil_append, agg, List.map_cons, List.map_nil]
  unfold variable'
  simp only [go_sem]
  refine (lex_IsType s (by omega)).call rfl rfl ?_
  cases isType s
  · by_cases h1 : (s.length : Int) = 2
    · simp only [go_sem, h1]
      refine res_indexS (Int.le_refl _) (c := s.headD 0) (headD_at (by omega)) ?_
      by_cases h2 : ((s.headD 0).toNat : Int) = 35
      · simp only [go_sem, h2]
        refine res_indexS (by omega) (c := s.tail.headD 0) (tail_at (by omega)) ?_
        by_cases h3 : (48 : Int) ≤ (s.tail.headD 0).toNat
        · simp only [go_sem, h3]
          refine res_indexS (by omega) (c := s.tail.headD 0) (tail_at (by omega)) ?_
          simp only [go_sem]
          exact ret_fun rfl (by simp [go_sem, h1, h2, h3]) rfl
        · simp only [go_sem, h3]; exact ret_fun rfl (by simp [go_sem, h1, h2, h3]) rfl
      · simp only [go_sem, h2]; exact ret_fun rfl (by simp [go_sem, h1, h2]) rfl
    · simp only [go_sem, h1]; exact ret_fun rfl (by simp [go_sem, h1]) rfl
  · simp only [go_sem]; exact ret_fun rfl (by simp [go_sem]) rfl

theorem syn_shaped1 (x : Fd) : Fun Tryz.prog 157 [agg x.enc] (.d (.bool x.opt)) := by
  refine ACalls.of_awp false Tryz.func157 (by decide) rfl ?_
  simp only [show Tryz.f157.ntmps = 5 from rfl, List.length_cons, List.length_nil, Nat.reduceAdd, Nat.reduceSub, List.replicate, List.cons_append, List.nil_append, agg, List.map_cons, List.map_nil]
  simp only [Fd.enc_eq x, List.map_cons, List.map_append, List.map_nil]
  simp only [go_sem]

  exact ret_fun rfl (by simp [go_sem]) rfl
theorem syn_typeNode2 (x : Fd) : Fun Tryz.prog 107 [agg x.enc] (.d (.str x.name)) := by
  refine ACalls.of_awp false Tryz.func107 (by decide) rfl ?_
  simp only [show Tryz.f107.ntmps = 5 from rfl, List.length_cons, List.length_nil, Nat.reduceAdd, Nat.reduceSub, List.replicate, List.cons_append, List.nil_append, agg, List.map_cons, List.map_nil]
  simp only [Fd.enc_eq x, List.map_cons, List.map_append, List.map_nil]
  simp only [go_sem]
  exact ret_fun rfl (by simp [go_sem]) rfl

theorem idx_fd (l : List Fd) (p : Fd → Bool) (f : FuncId) (capt : List AV) (hl : l.length ≤ 2147483648) (hok : Hok H) (hc : ∀ x ∈ l, FunH Tryz.prog f (agg x.enc :: capt) H (.d (.bool (p x)))) :
    FunH Tryz.prog 158 [.d (.sl false (l.map Fd.enc)), .fn (.func f) [] capt] H (.d (.int .i64 (idx p l 0))) := by
  refine ACalls.of_awp false Tryz.func158 (by decide) rfl ?_
  simp only [show Tryz.f158.ntmps = 19 from rfl, List.length_cons, List.length_nil, Nat.reduceAdd, Nat.reduceSub, List.replicate, List.cons_append, List.nil_append, agg, List.map_cons, List.map_nil]
  simp only [go_sem]
  refine awp_loop (ι := Nat) (fun i => [.d (.sl false (l.map Fd.enc)), .fn (.func f) [] capt, .any, .any, .any, .any, .any, .d (.int .i64 l.length), .d (.int .i64 i), .any, .any, .any, .any, .any, .any, .any, .any, .any, .any]) (fun _ => H) (fun i => l.length - i) (fun i => i ≤ l.length ∧ idx p l 0 = idx p (l.drop i) i) 0 ⟨by omega, rfl⟩ (Weak.les (by repeat (first | exact lesA_nil | refine lesA_cons (AV.le_any _) ?_ | refine lesA_cons (AV.le_refl _) ?_ | refine lesA_cons (AV.le_pure rfl) ?_))) ?_
  rintro i ⟨hi, ha⟩
  simp only [go_sem]
  refine cnd_lt (fun hlt => ?_) (fun hge => ?_)
  · have hd := List.drop_eq_getElem_cons hlt
    rw [hd, idx] at ha
    simp only [go_sem]
    refine res_index rfl rfl (by omega) (map_at Fd.enc hlt) (Fd.enc_len _) ?_
    simp only [go_sem, List.take_of_length_le (Nat.le_of_eq (Fd.enc_len _))]
    refine (hc _ (List.getElem_mem hlt)).call ?_
    cases hp : p l[i]
    · simp only [go_sem, wrap_succ (i := i) (by omega)]
      exact ⟨i + 1, by show _ - (i + 1) < _ - i; omega, ⟨hlt, by rw [ha, hp]; rfl⟩, Weak.les (by repeat (first | exact lesA_nil | refine lesA_cons (AV.le_any _) ?_ | refine lesA_cons (AV.le_refl _) ?_ | refine lesA_cons (AV.le_pure rfl) ?_))⟩
    · simp only [go_sem]
      refine ret_back0 rfl ?_ rfl hok
      rw [ha, hp]; simp [go_sem]
  · simp only [go_sem]
    have hnil : l.drop i = [] := List.drop_eq_nil_of_le hge
    refine ret_back0 rfl ?_ rfl hok
    rw [ha, hnil]; simp [go_sem, idx]

theorem idx_any {α : Type} (p : α → Bool) : ∀ (l : List α) (i : Nat), decide (0 ≤ idx p l i) = l.any p
  | [], i => by simp [idx]
  | x :: l, i => by
    simp only [idx, List.any_cons]
    by_cases hx : p x = true
    · simp [hx]
    · simp only [hx, Bool.not_eq_true] at hx ⊢
      simp only [hx, Bool.false_or, Bool.false_eq_true, if_false]
      exact idx_any p l (i + 1)

theorem has_fd (l : List Fd) (p : Fd → Bool) (f : FuncId) (capt : List AV) (hl : l.length ≤ 2147483648) (hok : Hok H) (hc : ∀ x ∈ l, FunH Tryz.prog f (agg x.enc :: capt) H (.d (.bool (p x)))) :
    FunH Tryz.prog 104 [.d (.sl false (l.map Fd.enc)), .fn (.func f) [] capt] H (.d (.bool (l.any p))) := by
  refine ACalls.of_awp false Tryz.func104 (by decide) rfl ?_
  simp only [show Tryz.f104.ntmps = 9 from rfl, List.length_cons, List.length_nil, Nat.reduceAdd, Nat.reduceSub, List.replicate, List.cons_append, List.nil_append, agg, List.map_cons, List.map_nil]
  simp only [go_sem]
  refine (idx_fd l p f capt hl hok hc).call ?_
  simp only [go_sem]
  refine ret_back0 rfl ?_ rfl hok
  have := idx_any p l 0
  simp [go_sem, this]

end Go.Proofs.YthhmioodienlmaaGreatDoor

/- Contract of the program's syntax.shaped. -/
namespace Go.Proofs.YthhmioodienlmaaGreatDoor
open Go
set_option maxRecDepth 20000
set_option pp.deepTerms false
set_option pp.deepTerms.threshold 6
variable {P : Program} {H : List HO}

def shaped (t : Ty) : Bool :=
  if t.kind ≠ 8 ∧ t.fields.any Fd.opt = true then false else
  if t.kind = 0 ∨ t.kind = 1 ∨ t.kind = 2 ∨ t.kind = 3 ∨ t.kind = 4 then decide (t.module = []) && decide (t.name = []) && decide ((t.args.length : Int) = 0) && decide ((t.fields.length : Int) = 0)
  else if t.kind = 5 then decide (t.module = []) && decide (t.name = []) && decide ((t.args.length : Int) = 1) && decide ((t.fields.length : Int) = 0)
  else if t.kind = 6 ∨ t.kind = 7 then decide (t.module = []) && decide (t.name = []) && decide ((t.args.length : Int) = 0)
  else if t.kind = 8 then decide (t.module = []) && decide (t.name = []) && decide ((t.args.length : Int) = 1)
  else if t.kind = 9 then decide (t.module = []) && decide ((t.args.length : Int) = 0) && decide ((t.fields.length : Int) = 0)
  else if t.kind = 10 then decide ((t.fields.length : Int) = 0) else false

set_option maxHeartbeats 2000000 in
theorem syn_shaped (t : Ty) (hl : t.fields.length ≤ 2147483648) : Fun Tryz.prog 101 [agg t.enc] (.d (.bool (shaped t))) := by
  obtain ⟨v, hv⟩ : ∃ v, v = shaped t := ⟨_, rfl⟩
  rw [← hv]
  unfold shaped at hv
  refine ACalls.of_awp false Tryz.func101 (by decide) rfl ?_
  simp only [show Tryz.f101.ntmps = 106 from rfl, List.length_cons, List.length_nil, Nat.reduceAdd, Nat.reduceSub, List.replicate, List.cons_append, List.nil_append, agg, List.map_cons, List.map_nil]
  simp only [Ty.enc_eq t, List.map_cons, List.map_nil]
  simp only [go_sem]
  refine awp_draw0 [false, false, false, false, false, false, false, false, false, false, false, false, false, false, false, false] mixed (by kernel_rfl) ?_
  simp only [go_sem]
  have hk : t.kind = t.kind := rfl
  generalize t.kind = k at hk hv ⊢
  by_cases h8 : k = 8
  · subst h8
    simp only [go_sem, Int.reduceEq, decide_true, decide_false, not_true_eq_false]
    by_cases hm : t.module = [] <;> by_cases hn : t.name = [] <;> by_cases ha : (t.args.length : Int) = 1 <;> (simp only [go_sem, Int.reduceEq, decide_true, decide_false, hm, hn, ha]; simp only [hm, hn, ha, Int.reduceEq, eq_self, ne_eq, not_true_eq_false, not_false_eq_true, false_and, true_and, and_false, and_true, or_true, true_or, or_false, false_or, or_self, if_true, if_false, decide_true, decide_false, Bool.and_true, Bool.true_and, Bool.and_false, Bool.false_and, Bool.and_self] at hv; subst hv; exact ret_fun rfl (by simp [go_sem]) rfl)
  · simp only [go_sem, h8]
    refine (has_fd t.fields Fd.opt _ _ hl (by intro o ho; simp only [List.mem_singleton] at ho; subst ho; simp [HO.inS, go_sem]) (fun x _ => (syn_shaped1 x).toH (by simp [go_sem, agg, Fd.enc_norm]) rfl)).call ?_
    cases hany : t.fields.any Fd.opt
    · simp only [go_sem]
      simp only [h8, hany, Bool.false_eq_true, and_false, if_false, not_false_eq_true] at hv
      by_cases h0 : k = 0
      · subst h0
        by_cases hm : t.module = [] <;> by_cases hn : t.name = [] <;> by_cases ha : (t.args.length : Int) = 0 <;> by_cases hf : (t.fields.length : Int) = 0 <;> (simp only [go_sem, Int.reduceEq, decide_true, decide_false, hm, hn, ha, hf]; simp only [hm, hn, ha, hf, Int.reduceEq, eq_self, ne_eq, not_true_eq_false, not_false_eq_true, false_and, true_and, and_false, and_true, or_true, true_or, or_false, false_or, or_self, if_true, if_false, decide_true, decide_false, Bool.and_true, Bool.true_and, Bool.and_false, Bool.false_and, Bool.and_self] at hv; subst hv; exact ret_fun rfl (by simp [go_sem]) rfl)
      by_cases h1 : k = 1
      · subst h1
        by_cases hm : t.module = [] <;> by_cases hn : t.name = [] <;> by_cases ha : (t.args.length : Int) = 0 <;> by_cases hf : (t.fields.length : Int) = 0 <;> (simp only [go_sem, Int.reduceEq, decide_true, decide_false, hm, hn, ha, hf]; simp only [hm, hn, ha, hf, Int.reduceEq, eq_self, ne_eq, not_true_eq_false, not_false_eq_true, false_and, true_and, and_false, and_true, or_true, true_or, or_false, false_or, or_self, if_true, if_false, decide_true, decide_false, Bool.and_true, Bool.true_and, Bool.and_false, Bool.false_and, Bool.and_self] at hv; subst hv; exact ret_fun rfl (by simp [go_sem]) rfl)
      by_cases h2 : k = 2
      · subst h2
        by_cases hm : t.module = [] <;> by_cases hn : t.name = [] <;> by_cases ha : (t.args.length : Int) = 0 <;> by_cases hf : (t.fields.length : Int) = 0 <;> (simp only [go_sem, Int.reduceEq, decide_true, decide_false, hm, hn, ha, hf]; simp only [hm, hn, ha, hf, Int.reduceEq, eq_self, ne_eq, not_true_eq_false, not_false_eq_true, false_and, true_and, and_false, and_true, or_true, true_or, or_false, false_or, or_self, if_true, if_false, decide_true, decide_false, Bool.and_true, Bool.true_and, Bool.and_false, Bool.false_and, Bool.and_self] at hv; subst hv; exact ret_fun rfl (by simp [go_sem]) rfl)
      by_cases h3 : k = 3
      · subst h3
        by_cases hm : t.module = [] <;> by_cases hn : t.name = [] <;> by_cases ha : (t.args.length : Int) = 0 <;> by_cases hf : (t.fields.length : Int) = 0 <;> (simp only [go_sem, Int.reduceEq, decide_true, decide_false, hm, hn, ha, hf]; simp only [hm, hn, ha, hf, Int.reduceEq, eq_self, ne_eq, not_true_eq_false, not_false_eq_true, false_and, true_and, and_false, and_true, or_true, true_or, or_false, false_or, or_self, if_true, if_false, decide_true, decide_false, Bool.and_true, Bool.true_and, Bool.and_false, Bool.false_and, Bool.and_self] at hv; subst hv; exact ret_fun rfl (by simp [go_sem]) rfl)
      by_cases h4 : k = 4
      · subst h4
        by_cases hm : t.module = [] <;> by_cases hn : t.name = [] <;> by_cases ha : (t.args.length : Int) = 0 <;> by_cases hf : (t.fields.length : Int) = 0 <;> (simp only [go_sem, Int.reduceEq, decide_true, decide_false, hm, hn, ha, hf]; simp only [hm, hn, ha, hf, Int.reduceEq, eq_self, ne_eq, not_true_eq_false, not_false_eq_true, false_and, true_and, and_false, and_true, or_true, true_or, or_false, false_or, or_self, if_true, if_false, decide_true, decide_false, Bool.and_true, Bool.true_and, Bool.and_false, Bool.false_and, Bool.and_self] at hv; subst hv; exact ret_fun rfl (by simp [go_sem]) rfl)
      by_cases h5 : k = 5
      · subst h5
        by_cases hm : t.module = [] <;> by_cases hn : t.name = [] <;> by_cases ha : (t.args.length : Int) = 1 <;> by_cases hf : (t.fields.length : Int) = 0 <;> (simp only [go_sem, Int.reduceEq, decide_true, decide_false, hm, hn, ha, hf]; simp only [hm, hn, ha, hf, Int.reduceEq, eq_self, ne_eq, not_true_eq_false, not_false_eq_true, false_and, true_and, and_false, and_true, or_true, true_or, or_false, false_or, or_self, if_true, if_false, decide_true, decide_false, Bool.and_true, Bool.true_and, Bool.and_false, Bool.false_and, Bool.and_self] at hv; subst hv; exact ret_fun rfl (by simp [go_sem]) rfl)
      by_cases h6 : k = 6
      · subst h6
        by_cases hm : t.module = [] <;> by_cases hn : t.name = [] <;> by_cases ha : (t.args.length : Int) = 0 <;> (simp only [go_sem, Int.reduceEq, decide_true, decide_false, hm, hn, ha]; simp only [hm, hn, ha, Int.reduceEq, eq_self, ne_eq, not_true_eq_false, not_false_eq_true, false_and, true_and, and_false, and_true, or_true, true_or, or_false, false_or, or_self, if_true, if_false, decide_true, decide_false, Bool.and_true, Bool.true_and, Bool.and_false, Bool.false_and, Bool.and_self] at hv; subst hv; exact ret_fun rfl (by simp [go_sem]) rfl)
      by_cases h7 : k = 7
      · subst h7
        by_cases hm : t.module = [] <;> by_cases hn : t.name = [] <;> by_cases ha : (t.args.length : Int) = 0 <;> (simp only [go_sem, Int.reduceEq, decide_true, decide_false, hm, hn, ha]; simp only [hm, hn, ha, Int.reduceEq, eq_self, ne_eq, not_true_eq_false, not_false_eq_true, false_and, true_and, and_false, and_true, or_true, true_or, or_false, false_or, or_self, if_true, if_false, decide_true, decide_false, Bool.and_true, Bool.true_and, Bool.and_false, Bool.false_and, Bool.and_self] at hv; subst hv; exact ret_fun rfl (by simp [go_sem]) rfl)
      by_cases h9 : k = 9
      · subst h9
        by_cases hm : t.module = [] <;> by_cases ha : (t.args.length : Int) = 0 <;> by_cases hf : (t.fields.length : Int) = 0 <;> (simp only [go_sem, Int.reduceEq, decide_true, decide_false, hm, ha, hf]; simp only [hm, ha, hf, Int.reduceEq, eq_self, ne_eq, not_true_eq_false, not_false_eq_true, false_and, true_and, and_false, and_true, or_true, true_or, or_false, false_or, or_self, if_true, if_false, decide_true, decide_false, Bool.and_true, Bool.true_and, Bool.and_false, Bool.false_and, Bool.and_self] at hv; subst hv; exact ret_fun rfl (by simp [go_sem]) rfl)
      by_cases h10 : k = 10
      · subst h10
        by_cases hf : (t.fields.length : Int) = 0 <;> (simp only [go_sem, Int.reduceEq, decide_true, decide_false, hf]; simp only [hf, Int.reduceEq, eq_self, ne_eq, not_true_eq_false, not_false_eq_true, false_and, true_and, and_false, and_true, or_true, true_or, or_false, false_or, or_self, if_true, if_false, decide_true, decide_false, Bool.and_true, Bool.true_and, Bool.and_false, Bool.false_and, Bool.and_self] at hv; subst hv; exact ret_fun rfl (by simp [go_sem]) rfl)
      simp only [go_sem, h0, h1, h2, h3, h4, h5, h6, h7, h8, h9, h10]
      simp only [h0, h1, h2, h3, h4, h5, h6, h7, h9, h10, Int.reduceEq, eq_self, ne_eq, not_true_eq_false, not_false_eq_true, false_and, true_and, and_false, and_true, or_true, true_or, or_false, false_or, or_self, if_true, if_false, decide_true, decide_false, Bool.and_true, Bool.true_and, Bool.and_false, Bool.false_and, Bool.and_self] at hv; subst hv; exact ret_fun rfl (by simp [go_sem]) rfl
    · simp only [go_sem]
      simp only [hany, h8, Int.reduceEq, eq_self, ne_eq, not_true_eq_false, not_false_eq_true, false_and, true_and, and_false, and_true, or_true, true_or, or_false, false_or, or_self, if_true, if_false, decide_true, decide_false, Bool.and_true, Bool.true_and, Bool.and_false, Bool.false_and, Bool.and_self] at hv; subst hv; exact ret_fun rfl (by simp [go_sem]) rfl

end Go.Proofs.YthhmioodienlmaaGreatDoor

/- The program's typeNode: its model is the reference's. -/
namespace Go.Proofs.YthhmioodienlmaaGreatDoor
open Go
set_option maxRecDepth 20000
set_option pp.deepTerms false
set_option pp.deepTerms.threshold 6
variable {P : Program} {H : List HO}

def ptnode (t : Ty) : Int :=
  if shaped t = false then 1 else
  if 32 < (t.fields.length : Int) ∨ 8 < (t.args.length : Int) then 7 else
  if t.kind = 9 ∧ variable' t.name = false ∨ t.kind = 10 ∧ (module t.module = false ∨ isType t.name = false) then 4 else
  if t.fields.any (fun f => !isName f.name) then 4 else
  nbs (t.fields.map Fd.name)

theorem any_and_true (fs : List Fd) : fs.any (fun f => f.opt && true) = fs.any Fd.opt := by simp only [Bool.and_true]
theorem any_and_false (fs : List Fd) : fs.any (fun f => f.opt && false) = false := by simp

def shapedM (k : Int) (mo n : Str) (ar : List Ty) (fs : List Fd) : Bool :=
  if k ≠ 8 ∧ fs.any Fd.opt = true then false else
  if k = 0 ∨ k = 1 ∨ k = 2 ∨ k = 3 ∨ k = 4 then decide (mo = []) && decide (n = []) && decide ((ar.length : Int) = 0) && decide ((fs.length : Int) = 0)
  else if k = 5 then decide (mo = []) && decide (n = []) && decide ((ar.length : Int) = 1) && decide ((fs.length : Int) = 0)
  else if k = 6 ∨ k = 7 then decide (mo = []) && decide (n = []) && decide ((ar.length : Int) = 0)
  else if k = 8 then decide (mo = []) && decide (n = []) && decide ((ar.length : Int) = 1)
  else if k = 9 then decide (mo = []) && decide ((ar.length : Int) = 0) && decide ((fs.length : Int) = 0)
  else if k = 10 then decide ((fs.length : Int) = 0) else false
theorem shaped_mk (k : Int) (mo n : Str) (ar : List Ty) (fs : List Fd) : shaped (.mk k mo n ar fs) = shapedM k mo n ar fs := by rfl
def ptnodeM (k : Int) (mo n : Str) (ar : List Ty) (fs : List Fd) : Int :=
  if shapedM k mo n ar fs = false then 1 else
  if 32 < (fs.length : Int) ∨ 8 < (ar.length : Int) then 7 else
  if k = 9 ∧ variable' n = false ∨ k = 10 ∧ (module mo = false ∨ isType n = false) then 4 else
  if fs.any (fun f => !isName f.name) then 4 else
  nbs (fs.map Fd.name)
theorem ptnode_mk (k : Int) (mo n : Str) (ar : List Ty) (fs : List Fd) : ptnode (.mk k mo n ar fs) = ptnodeM k mo n ar fs := by rfl

set_option maxHeartbeats 4000000 in
theorem ptnode_eq (t : Ty) : ptnode t = tnode t := by
  obtain ⟨k, mo, n, ar, fs⟩ := t
  rw [ptnode_mk]
  by_cases hr : k < 0 ∨ 10 < k
  · have hs : shapedM k mo n ar fs = false := by
      unfold shapedM
      by_cases hb : k ≠ 8 ∧ fs.any Fd.opt = true
      · rw [if_pos hb]
      · rw [if_neg hb, if_neg (by omega), if_neg (by omega), if_neg (by omega), if_neg (by omega), if_neg (by omega), if_neg (by omega)]
    simp only [ptnodeM, hs, if_true, tnode]
    rw [if_pos hr]
  · have hk : k = 0 ∨ k = 1 ∨ k = 2 ∨ k = 3 ∨ k = 4 ∨ k = 5 ∨ k = 6 ∨ k = 7 ∨ k = 8 ∨ k = 9 ∨ k = 10 := by omega
    unfold ptnodeM shapedM tnode
    rcases hk with rfl | rfl | rfl | rfl | rfl | rfl | rfl | rfl | rfl | rfl | rfl
    all_goals simp only [Int.reduceEq, Int.reduceLT, ne_eq, not_true_eq_false, not_false_eq_true, false_and, true_and, and_false, and_true, or_true, true_or, or_false, false_or, or_self, if_true, if_false, decide_true, decide_false, any_and_true, any_and_false, Bool.false_eq_true]
    all_goals cases ho : fs.any Fd.opt
    all_goals by_cases hm : mo = []
    all_goals by_cases hn : n = []
    all_goals by_cases h0 : (ar.length : Int) = 0
    all_goals by_cases h1 : (ar.length : Int) = 1
    all_goals by_cases hf : (fs.length : Int) = 0
    all_goals try omega
    all_goals have hf' : (0 < (fs.length : Int)) = ¬ ((fs.length : Int) = 0) := by rw [eq_iff_iff]; constructor <;> intro h <;> omega
    all_goals have h8' : ((ar.length : Int) = 0 ∨ (ar.length : Int) = 1) → (8 < (ar.length : Int)) = False := fun h => eq_false (by omega)
    all_goals simp only [hf', hm, hn, hf, h0, h1, h8', or_true, true_or, Int.reduceEq, Int.reduceLT, not_true_eq_false, not_false_eq_true, decide_true, decide_false, Bool.and_true, Bool.true_and, Bool.and_false, Bool.false_and, Bool.and_self, if_true, if_false, or_false, false_or, or_self, Bool.false_eq_true, Bool.true_eq_false, and_true, true_and, and_self, and_false, false_and, forall_const]

end Go.Proofs.YthhmioodienlmaaGreatDoor

/- The program's typeNode and CheckType, given the contracts of names, modules and increase. -/
namespace Go.Proofs.YthhmioodienlmaaGreatDoor
open Go
set_option maxRecDepth 20000
set_option pp.deepTerms false
set_option pp.deepTerms.threshold 6
variable {P : Program} {H : List HO}

theorem syn_typeNode1_of (x : Fd) (hname : Fun Tryz.prog 96 [.d (.str x.name)] (.d (.bool (isName x.name)))) : Fun Tryz.prog 105 [agg x.enc] (.d (.bool (!isName x.name))) := by
  refine ACalls.of_awp false Tryz.func105 (by decide) rfl ?_
  simp only [show Tryz.f105.ntmps = 7 from rfl, List.length_cons, List.length_nil, Nat.reduceAdd, Nat.reduceSub, List.replicate, List.cons_append, List.nil_append, agg, List.map_cons, List.map_nil]
  simp only [Fd.enc_eq x, List.map_cons, List.map_append, List.map_nil]
  simp only [go_sem]
  refine hname.call (by simp only [go_sem]) rfl ?_
  cases isName x.name <;> (simp only [go_sem]; exact ret_fun rfl (by simp [go_sem]) rfl)

set_option maxHeartbeats 2000000 in
theorem syn_typeNode_of (hname : ∀ s : Str, s.length ≤ 1048576 → Fun Tryz.prog 96 [.d (.str s)] (.d (.bool (isName s))))
    (hmod : ∀ s : Str, s.length ≤ 1048576 → Fun Tryz.prog 103 [.d (.str s)] (.d (.bool (module s))))
    (hinc : ∀ (l : List Fd) (H : List HO), Hok H → l.length ≤ 2147483648 → FunH Tryz.prog 106 [.d (.sl false (l.map Fd.enc)), .fn (.func 107) [] []] H (.d (.int .i64 (nbs (l.map Fd.name)))))
    (t : Ty) (ht : t.good) (hl : t.fields.length ≤ 2147483648) : Fun Tryz.prog 62 [agg t.enc] (.d (.int .i64 (ptnode t))) := by
  obtain ⟨v, hv⟩ : ∃ v, v = ptnode t := ⟨_, rfl⟩
  rw [← hv]
  unfold ptnode at hv
  have hso := ht.s
  refine ACalls.of_awp false Tryz.func62 (by decide) rfl ?_
  simp only [show Tryz.f62.ntmps = 50 from rfl, List.length_cons, List.length_nil, Nat.reduceAdd, Nat.reduceSub, List.replicate, List.cons_append, List.nil_append, agg, List.map_cons, List.map_nil]
  simp only [go_sem, Ty.enc_take]
  refine (syn_shaped t hl).call (by simp only [go_sem, agg]) (by simp [go_sem, agg]) ?_
  cases hs : shaped t
  · rw [hs, if_pos rfl] at hv
    simp only [go_sem]
    exact ret_fun rfl (by simp [go_sem, hv]) rfl
  · rw [hs, if_neg (by simp)] at hv
    have hokH : Hok [HO.cells [.d (.int .i64 t.kind), .d (.str t.module), .d (.str t.name), .d (.sl false (t.args.map Ty.enc)), .d (.sl false (t.fields.map Fd.enc))]] := by
      intro o ho; simp only [List.mem_singleton] at ho; subst ho; simp [HO.inS, go_sem]
    simp only [Ty.enc_eq t, List.map_cons, List.map_nil]
    simp only [go_sem]
    by_cases h1 : 32 < (t.fields.length : Int)
    · rw [if_pos (.inl h1)] at hv
      simp only [go_sem, h1]; exact ret_fun rfl (by simp [go_sem, hv]) rfl
    · by_cases h2 : 8 < (t.args.length : Int)
      · rw [if_pos (.inr h2)] at hv
        simp only [go_sem, h1, h2]; exact ret_fun rfl (by simp [go_sem, hv]) rfl
      · rw [if_neg (by simp [h1, h2])] at hv
        simp only [go_sem, h1, h2]
        by_cases h9 : t.kind = 9
        · have e9 := eq_true h9
          have e10 : (t.kind = 10) = False := eq_false (by omega)
          simp only [go_sem, e9]
          refine (syn_Variable t.name hso.2.1).call (by simp only [go_sem]) rfl ?_
          cases hva : variable' t.name
          · rw [if_pos (.inl ⟨h9, hva⟩)] at hv
            simp only [go_sem]; exact ret_fun rfl (by simp [go_sem, hv]) rfl
          · rw [if_neg (by rintro (⟨_, b⟩ | ⟨b, _⟩); · rw [hva] at b; cases b
                           · omega)] at hv
            simp only [go_sem, e10]
            refine (has_fd t.fields (fun f => !isName f.name) _ _ hl hokH (fun x hx => (syn_typeNode1_of x (hname _ (hso.2.2 x hx))).toH (by simp [go_sem, agg, Fd.enc_norm]) rfl)).call ?_
            cases hany : t.fields.any (fun f => !isName f.name)
            · rw [hany, if_neg (by simp)] at hv
              simp only [go_sem]
              refine (hinc t.fields _ hokH hl).call ?_
              simp only [go_sem]
              exact ret_fun rfl (by simp [go_sem, hv]) rfl
            · rw [hany, if_pos rfl] at hv
              simp only [go_sem]
              exact ret_fun rfl (by simp [go_sem, hv]) rfl
        · by_cases h10 : t.kind = 10
          · have e10 := eq_true h10
            simp only [go_sem, h9, e10]
            refine (hmod t.module hso.1).call (by simp only [go_sem]) rfl ?_
            cases hmo : module t.module
            · rw [if_pos (.inr ⟨h10, .inl hmo⟩)] at hv
              simp only [go_sem]; exact ret_fun rfl (by simp [go_sem, hv]) rfl
            · simp only [go_sem]
              refine (lex_IsType t.name (by have := hso.2.1; omega)).call (by simp only [go_sem]) rfl ?_
              cases hty : isType t.name
              · rw [if_pos (.inr ⟨h10, .inr hty⟩)] at hv
                simp only [go_sem]; exact ret_fun rfl (by simp [go_sem, hv]) rfl
              · rw [if_neg (by rintro (⟨b, _⟩ | ⟨_, b | b⟩); · omega
                               · rw [hmo] at b; cases b
                               · rw [hty] at b; cases b)] at hv
                simp only [go_sem]
                refine (has_fd t.fields (fun f => !isName f.name) _ _ hl hokH (fun x hx => (syn_typeNode1_of x (hname _ (hso.2.2 x hx))).toH (by simp [go_sem, agg, Fd.enc_norm]) rfl)).call ?_
                cases hany : t.fields.any (fun f => !isName f.name)
                · rw [hany, if_neg (by simp)] at hv
                  simp only [go_sem]
                  refine (hinc t.fields _ hokH hl).call ?_
                  simp only [go_sem]
                  exact ret_fun rfl (by simp [go_sem, hv]) rfl
                · rw [hany, if_pos rfl] at hv
                  simp only [go_sem]
                  exact ret_fun rfl (by simp [go_sem, hv]) rfl
          · rw [if_neg (by rintro (⟨b, _⟩ | ⟨b, _⟩); · exact h9 b
                           · exact h10 b)] at hv
            simp only [go_sem, h9, h10]
            refine (has_fd t.fields (fun f => !isName f.name) _ _ hl hokH (fun x hx => (syn_typeNode1_of x (hname _ (hso.2.2 x hx))).toH (by simp [go_sem, agg, Fd.enc_norm]) rfl)).call ?_
            cases hany : t.fields.any (fun f => !isName f.name)
            · rw [hany, if_neg (by simp)] at hv
              simp only [go_sem]
              refine (hinc t.fields _ hokH hl).call ?_
              simp only [go_sem]
              exact ret_fun rfl (by simp [go_sem, hv]) rfl
            · rw [hany, if_pos rfl] at hv
              simp only [go_sem]
              exact ret_fun rfl (by simp [go_sem, hv]) rfl

/-- what is still to prove of names -/
structure NamesOk : Prop where
  name : ∀ s : Str, s.length ≤ 1048576 → Fun Tryz.prog 96 [.d (.str s)] (.d (.bool (isName s)))
  mod : ∀ s : Str, s.length ≤ 1048576 → Fun Tryz.prog 103 [.d (.str s)] (.d (.bool (module s)))
  inc : ∀ (l : List Fd) (H : List HO), Hok H → l.length ≤ 2147483648 → FunH Tryz.prog 106 [.d (.sl false (l.map Fd.enc)), .fn (.func 107) [] []] H (.d (.int .i64 (nbs (l.map Fd.name))))

theorem syn_CheckType (h : NamesOk) (t : Ty) (ht : t.good) : Fun Tryz.prog 27 [agg t.enc] (.d (.int .i64 (checkTy t))) :=
  syn_CheckType_of (fun u hu => by rw [← ptnode_eq]; exact syn_typeNode_of h.name h.mod h.inc u hu (by have := hu.len; omega)) t ht

theorem wel_Type (h : NamesOk) (env : Env) (vars : List Str) (hg : env.good) (hv : vars.length ≤ 1048576) (t : Ty) (ht : t.good) : Fun Tryz.prog 10 [.d (.sl false (env.map If.enc)), .d (.sl false (vars.map sE)), agg t.enc] (.d (.int .i64 (typeIn env vars t))) := by
  obtain ⟨v, hv'⟩ : ∃ v, v = typeIn env vars t := ⟨_, rfl⟩
  rw [← hv']
  unfold typeIn at hv'
  refine ACalls.of_awp false Tryz.func10 (by decide) rfl ?_
  simp only [show Tryz.f10.ntmps = 17 from rfl, List.length_cons, List.length_nil, Nat.reduceAdd, Nat.reduceSub, List.replicate, List.cons_append, List.nil_append, agg, List.map_cons, List.map_nil]
  simp only [go_sem, Ty.enc_take]
  refine (syn_CheckType h t ht).call (by simp only [go_sem, agg]) (by simp [go_sem, agg]) ?_
  by_cases h0 : checkTy t = 0
  · rw [if_neg (by simpa using h0)] at hv'
    have h0' := eq_true h0
    simp only [go_sem, h0', Ty.enc_take]
    refine (wel_nodes env vars hg hv t ht).call (by simp only [go_sem, agg]) (by simp [go_sem, agg]) ?_
    simp only [go_sem]
    exact ret_fun rfl (by simp [go_sem, hv']) rfl
  · rw [if_pos h0] at hv'
    simp only [go_sem, h0]
    exact ret_fun rfl (by simp [go_sem, hv']) rfl

end Go.Proofs.YthhmioodienlmaaGreatDoor
