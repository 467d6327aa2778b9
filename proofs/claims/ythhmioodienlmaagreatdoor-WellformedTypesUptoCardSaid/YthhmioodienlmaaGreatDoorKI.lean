/- Contracts of the program's functions on environments (chapter 7): searches. -/
import Derived.Test.YthhmioodienlmaaGreatDoorKH
set_option linter.unusedSimpArgs false
set_option linter.unusedVariables false
namespace Go.Proofs.YthhmioodienlmaaGreatDoor
open Go
set_option maxRecDepth 20000
set_option pp.deepTerms false
set_option pp.deepTerms.threshold 6
variable {P : Program} {H : List HO}

theorem res_store1 {b el : Nat} {ag isS isM : Bool} {fs : List (Nat × Nat × Bool)} {al : Option Nat} {ky : TypeId} {ki : Option IntKind} {st : Bool} {z : List D} {id off : Nat} {cs : List AV} {v : AV} {K : AV → List HO → Prop} (hc : H[id]? = some (.cells cs)) (hv : v.cells? = some [v]) (hx : off < cs.length)
    (h : K (.tup []) (H.set id (.cells (cs.set off v)))) : res (oStore (some ⟨1, b, ag, fs, el, al, isS, isM, ky, ki, st, z⟩) (.ptr id off) v H) K := by
  have e : oStore (some ⟨1, b, ag, fs, el, al, isS, isM, ky, ki, st, z⟩) (.ptr id off) v H = some (.tup [], H.set id (.cells (cs.set off v))) := by
    simp only [oStore, hv, hcells, hc]
    rw [if_pos ⟨rfl, hx⟩]
    congr 4
    simp [splice, List.set_eq_take_append_cons_drop, hx]
  rw [e]; exact h

/-- the index of the first element of which p holds, or -1 -/
def idx {α : Type} (p : α → Bool) : List α → Nat → Int
  | [], _ => -1
  | x :: l, i => if p x then (i : Int) else idx p l (i + 1)
theorem idx_find {α : Type} (p : α → Bool) : ∀ (l : List α) (i : Nat), match l.find? p with
    | none => idx p l i = -1
    | some x => ∃ k, idx p l i = ((i + k : Nat) : Int) ∧ l[k]? = some x
  | [], i => by simp [idx]
  | y :: l, i => by
    simp only [List.find?, idx]
    cases hy : p y
    · have := idx_find p l (i + 1)
      simp only [Bool.false_eq_true, if_false]
      cases hf : l.find? p with
      | none => rw [hf] at this; exact this
      | some x =>
        rw [hf] at this
        obtain ⟨k, h1, h2⟩ := this
        exact ⟨k + 1, by rw [h1]; congr 1; omega, h2⟩
    · exact ⟨0, by simp, by simp⟩

theorem Hok.app {H r : List HO} (h : Hok H) (hr : ∀ o ∈ r, o.inS (· < H.length + r.length)) : Hok (H ++ r) := by
  intro o ho
  simp only [List.mem_append, List.length_append] at ho ⊢
  rcases ho with ho | ho
  · exact HO.inS_mono (fun i hi => by omega) (h o ho)
  · exact hr o ho

theorem idx_if (l : List If) (p : If → Bool) (f : FuncId) (capt : List AV) (hl : l.length ≤ 1048576) (hok : Hok H) (hc : ∀ x ∈ l, FunH Tryz.prog f (agg x.enc :: capt) H (.d (.bool (p x)))) :
    FunH Tryz.prog 165 [.d (.sl false (l.map If.enc)), .fn (.func f) [] capt] H (.d (.int .i64 (idx p l 0))) := by
  refine ACalls.of_awp false Tryz.func165 (by decide) rfl ?_
  simp only [show Tryz.f165.ntmps = 19 from rfl, List.length_cons, List.length_nil, Nat.reduceAdd, Nat.reduceSub, List.replicate, List.cons_append, List.nil_append, agg, List.map_cons, List.map_nil]
  simp only [go_sem]
  refine awp_loop (ι := Nat) (fun i => [.d (.sl false (l.map If.enc)), .fn (.func f) [] capt, .any, .any, .any, .any, .any, .d (.int .i64 l.length), .d (.int .i64 i), .any, .any, .any, .any, .any, .any, .any, .any, .any, .any]) (fun _ => H) (fun i => l.length - i) (fun i => i ≤ l.length ∧ idx p l 0 = idx p (l.drop i) i) 0 ⟨by omega, rfl⟩ (Weak.les (by repeat (first | exact lesA_nil | refine lesA_cons (AV.le_any _) ?_ | refine lesA_cons (AV.le_refl _) ?_ | refine lesA_cons (AV.le_pure rfl) ?_))) ?_
  rintro i ⟨hi, ha⟩
  simp only [go_sem]
  refine cnd_lt (fun hlt => ?_) (fun hge => ?_)
  · have hd := List.drop_eq_getElem_cons hlt
    rw [hd, idx] at ha
    simp only [go_sem]
    refine res_index rfl rfl (by omega) (map_at If.enc hlt) (If.enc_len _) ?_
    simp only [go_sem, List.take_of_length_le (Nat.le_of_eq (If.enc_len _))]
    refine (hc _ (List.getElem_mem hlt)).call ?_
    cases hp : p l[i]
    · simp only [go_sem, wrap_succ (i := i) (by omega)]
      exact ⟨i + 1, by show _ - (i + 1) < _ - i; omega, ⟨hlt, by rw [ha, hp]; rfl⟩, Weak.les (by repeat (first | exact lesA_nil | refine lesA_cons (AV.le_any _) ?_ | refine lesA_cons (AV.le_refl _) ?_ | refine lesA_cons (AV.le_pure rfl) ?_))⟩
    · simp only [go_sem]
      refine ret_back0 rfl ?_ rfl hok
      rw [ha, hp]; simp [go_sem]
  · simp only [go_sem]
    have hnil : l.drop i = [] := List.drop_eq_nil_of_le hge
    refine ret_back0 rfl ?_ rfl hok
    rw [ha, hnil]; simp [go_sem, idx]

theorem first_if (l : List If) (p : If → Bool) (f : FuncId) (capt : List AV) (hl : l.length ≤ 1048576) (hok : Hok H) (hcap : AV.inSs (· < H.length) capt) (hc : ∀ H', Hok (H ++ H') → ∀ x ∈ l, FunH Tryz.prog f (agg x.enc :: capt) (H ++ H') (.d (.bool (p x)))) :
    FunH Tryz.prog 111 [.d (.sl false (l.map If.enc)), .fn (.func f) [] capt] H (.tup [agg ((l.find? p).getD zIf).enc, .d (.bool (l.find? p).isSome)]) := by
  refine ACalls.of_awp false Tryz.func111 (by decide) rfl ?_
  simp only [show Tryz.f111.ntmps = 18 from rfl, List.length_cons, List.length_nil, Nat.reduceAdd, Nat.reduceSub, List.replicate, List.cons_append, List.nil_append, agg, List.map_cons, List.map_nil]
  have hz : List.map AV.d zIf.enc = [.d (.str []), .d (.sl false []), .d (.sl false []), .d (.sl false []), .d (.sl false [])] := by rfl
  simp only [go_sem]
  refine (idx_if l p f capt hl (Hok.app hok (by simp [HO.inS, go_sem])) (fun x hx => hc _ (Hok.app hok (by simp [HO.inS, go_sem])) x hx)).call ?_
  have hif := idx_find p l 0
  cases hf : l.find? p with
  | none =>
    rw [hf] at hif
    have hif : idx p l 0 = -1 := hif
    simp only [go_sem, hif, Option.isSome_none, Option.getD_none]
    refine cnd_if (fun h => absurd h (by decide)) (fun _ => ?_)
    simp only [go_sem]
    refine res_storeAll get_new rfl rfl rfl ?_
    simp only [go_sem]
    rw [show Tryz.f111.results.toList = [.cell 4 40, .tmp 5] from rfl]
    refine ret_back (r := _) (by simp only [ares, aresL, ares1_cell, ares1_tmp, go_sem]; rfl) ?_ (by simp [go_sem]) hok
    rw [hz]; simp [go_sem]
  | some x =>
    rw [hf] at hif
    obtain ⟨k, h1, h2⟩ := hif
    rw [Nat.zero_add] at h1
    have hlt := (List.getElem?_eq_some_iff.1 h2).1
    simp only [go_sem, h1, Option.isSome_some, Option.getD_some]
    refine cnd_if (fun _ => ?_) (fun h => absurd (by omega) h)
    simp only [go_sem]
    refine res_index rfl rfl (by omega) (x := x.enc) (by rw [at_nat, List.getElem?_map, h2]; rfl) (If.enc_len _) ?_
    simp only [go_sem, List.take_of_length_le (Nat.le_of_eq (If.enc_len _))]
    refine res_storeAll get_new (by simp [AV.one]) (by simp [If.enc_len]) rfl ?_
    simp only [go_sem]
    rw [show Tryz.f111.results.toList = [.cell 4 40, .tmp 5] from rfl]
    refine ret_back (r := _) (by simp only [ares, aresL, ares1_cell, ares1_tmp, go_sem]; rfl) ?_ (by simp [go_sem, agg]) hok
    simp [go_sem, agg]

theorem idx_te (l : List TE) (p : TE → Bool) (f : FuncId) (capt : List AV) (hl : l.length ≤ 1048576) (hok : Hok H) (hc : ∀ x ∈ l, FunH Tryz.prog f (agg x.enc :: capt) H (.d (.bool (p x)))) :
    FunH Tryz.prog 50 [.d (.sl false (l.map TE.enc)), .fn (.func f) [] capt] H (.d (.int .i64 (idx p l 0))) := by
  refine ACalls.of_awp false Tryz.func50 (by decide) rfl ?_
  simp only [show Tryz.f50.ntmps = 19 from rfl, List.length_cons, List.length_nil, Nat.reduceAdd, Nat.reduceSub, List.replicate, List.cons_append, List.nil_append, agg, List.map_cons, List.map_nil]
  simp only [go_sem]
  refine awp_loop (ι := Nat) (fun i => [.d (.sl false (l.map TE.enc)), .fn (.func f) [] capt, .any, .any, .any, .any, .any, .d (.int .i64 l.length), .d (.int .i64 i), .any, .any, .any, .any, .any, .any, .any, .any, .any, .any]) (fun _ => H) (fun i => l.length - i) (fun i => i ≤ l.length ∧ idx p l 0 = idx p (l.drop i) i) 0 ⟨by omega, rfl⟩ (Weak.les (by repeat (first | exact lesA_nil | refine lesA_cons (AV.le_any _) ?_ | refine lesA_cons (AV.le_refl _) ?_ | refine lesA_cons (AV.le_pure rfl) ?_))) ?_
  rintro i ⟨hi, ha⟩
  simp only [go_sem]
  refine cnd_lt (fun hlt => ?_) (fun hge => ?_)
  · have hd := List.drop_eq_getElem_cons hlt
    rw [hd, idx] at ha
    simp only [go_sem]
    refine res_index rfl rfl (by omega) (map_at TE.enc hlt) (TE.enc_len _) ?_
    simp only [go_sem, List.take_of_length_le (Nat.le_of_eq (TE.enc_len _))]
    refine (hc _ (List.getElem_mem hlt)).call ?_
    cases hp : p l[i]
    · simp only [go_sem, wrap_succ (i := i) (by omega)]
      exact ⟨i + 1, by show _ - (i + 1) < _ - i; omega, ⟨hlt, by rw [ha, hp]; rfl⟩, Weak.les (by repeat (first | exact lesA_nil | refine lesA_cons (AV.le_any _) ?_ | refine lesA_cons (AV.le_refl _) ?_ | refine lesA_cons (AV.le_pure rfl) ?_))⟩
    · simp only [go_sem]
      refine ret_back0 rfl ?_ rfl hok
      rw [ha, hp]; simp [go_sem]
  · simp only [go_sem]
    have hnil : l.drop i = [] := List.drop_eq_nil_of_le hge
    refine ret_back0 rfl ?_ rfl hok
    rw [ha, hnil]; simp [go_sem, idx]

theorem first_te (l : List TE) (p : TE → Bool) (f : FuncId) (capt : List AV) (hl : l.length ≤ 1048576) (hok : Hok H) (hcap : AV.inSs (· < H.length) capt) (hc : ∀ H', Hok (H ++ H') → ∀ x ∈ l, FunH Tryz.prog f (agg x.enc :: capt) (H ++ H') (.d (.bool (p x)))) :
    FunH Tryz.prog 189 [.d (.sl false (l.map TE.enc)), .fn (.func f) [] capt] H (.tup [agg ((l.find? p).getD zTE).enc, .d (.bool (l.find? p).isSome)]) := by
  refine ACalls.of_awp false Tryz.func189 (by decide) rfl ?_
  simp only [show Tryz.f189.ntmps = 18 from rfl, List.length_cons, List.length_nil, Nat.reduceAdd, Nat.reduceSub, List.replicate, List.cons_append, List.nil_append, agg, List.map_cons, List.map_nil]
  have hz : List.map AV.d zTE.enc = [.d (.str []), .d (.sl false []), .d (.int .i64 0), .d (.str []), .d (.str []), .d (.sl false []), .d (.sl false []), .d (.int .i64 0), .d (.str []), .d (.str []), .d (.sl false []), .d (.sl false [])] := by rfl
  simp only [go_sem]
  refine (idx_te l p f capt hl (Hok.app hok (by simp [HO.inS, go_sem])) (fun x hx => hc _ (Hok.app hok (by simp [HO.inS, go_sem])) x hx)).call ?_
  have hif := idx_find p l 0
  cases hf : l.find? p with
  | none =>
    rw [hf] at hif
    have hif : idx p l 0 = -1 := hif
    simp only [go_sem, hif, Option.isSome_none, Option.getD_none]
    refine cnd_if (fun h => absurd h (by decide)) (fun _ => ?_)
    simp only [go_sem]
    refine res_storeAll get_new rfl rfl rfl ?_
    simp only [go_sem]
    rw [show Tryz.f189.results.toList = [.cell 4 51, .tmp 5] from rfl]
    refine ret_back (r := _) (by simp only [ares, aresL, ares1_cell, ares1_tmp, go_sem]; rfl) ?_ (by simp [go_sem]) hok
    rw [hz]; simp [go_sem]
  | some x =>
    rw [hf] at hif
    obtain ⟨k, h1, h2⟩ := hif
    rw [Nat.zero_add] at h1
    have hlt := (List.getElem?_eq_some_iff.1 h2).1
    simp only [go_sem, h1, Option.isSome_some, Option.getD_some]
    refine cnd_if (fun _ => ?_) (fun h => absurd (by omega) h)
    simp only [go_sem]
    refine res_index rfl rfl (by omega) (x := x.enc) (by rw [at_nat, List.getElem?_map, h2]; rfl) (TE.enc_len _) ?_
    simp only [go_sem, List.take_of_length_le (Nat.le_of_eq (TE.enc_len _))]
    refine res_storeAll get_new (by simp [AV.one]) (by simp [TE.enc_len]) rfl ?_
    simp only [go_sem]
    rw [show Tryz.f189.results.toList = [.cell 4 51, .tmp 5] from rfl]
    refine ret_back (r := _) (by simp only [ares, aresL, ares1_cell, ares1_tmp, go_sem]; rfl) ?_ (by simp [go_sem, agg]) hok
    simp [go_sem, agg]

theorem idx_ve (l : List VE) (p : VE → Bool) (f : FuncId) (capt : List AV) (hl : l.length ≤ 1048576) (hok : Hok H) (hc : ∀ x ∈ l, FunH Tryz.prog f (agg x.enc :: capt) H (.d (.bool (p x)))) :
    FunH Tryz.prog 53 [.d (.sl false (l.map VE.enc)), .fn (.func f) [] capt] H (.d (.int .i64 (idx p l 0))) := by
  refine ACalls.of_awp false Tryz.func53 (by decide) rfl ?_
  simp only [show Tryz.f53.ntmps = 19 from rfl, List.length_cons, List.length_nil, Nat.reduceAdd, Nat.reduceSub, List.replicate, List.cons_append, List.nil_append, agg, List.map_cons, List.map_nil]
  simp only [go_sem]
  refine awp_loop (ι := Nat) (fun i => [.d (.sl false (l.map VE.enc)), .fn (.func f) [] capt, .any, .any, .any, .any, .any, .d (.int .i64 l.length), .d (.int .i64 i), .any, .any, .any, .any, .any, .any, .any, .any, .any, .any]) (fun _ => H) (fun i => l.length - i) (fun i => i ≤ l.length ∧ idx p l 0 = idx p (l.drop i) i) 0 ⟨by omega, rfl⟩ (Weak.les (by repeat (first | exact lesA_nil | refine lesA_cons (AV.le_any _) ?_ | refine lesA_cons (AV.le_refl _) ?_ | refine lesA_cons (AV.le_pure rfl) ?_))) ?_
  rintro i ⟨hi, ha⟩
  simp only [go_sem]
  refine cnd_lt (fun hlt => ?_) (fun hge => ?_)
  · have hd := List.drop_eq_getElem_cons hlt
    rw [hd, idx] at ha
    simp only [go_sem]
    refine res_index rfl rfl (by omega) (map_at VE.enc hlt) (VE.enc_len _) ?_
    simp only [go_sem, List.take_of_length_le (Nat.le_of_eq (VE.enc_len _))]
    refine (hc _ (List.getElem_mem hlt)).call ?_
    cases hp : p l[i]
    · simp only [go_sem, wrap_succ (i := i) (by omega)]
      exact ⟨i + 1, by show _ - (i + 1) < _ - i; omega, ⟨hlt, by rw [ha, hp]; rfl⟩, Weak.les (by repeat (first | exact lesA_nil | refine lesA_cons (AV.le_any _) ?_ | refine lesA_cons (AV.le_refl _) ?_ | refine lesA_cons (AV.le_pure rfl) ?_))⟩
    · simp only [go_sem]
      refine ret_back0 rfl ?_ rfl hok
      rw [ha, hp]; simp [go_sem]
  · simp only [go_sem]
    have hnil : l.drop i = [] := List.drop_eq_nil_of_le hge
    refine ret_back0 rfl ?_ rfl hok
    rw [ha, hnil]; simp [go_sem, idx]

theorem first_ve (l : List VE) (p : VE → Bool) (f : FuncId) (capt : List AV) (hl : l.length ≤ 1048576) (hok : Hok H) (hcap : AV.inSs (· < H.length) capt) (hc : ∀ H', Hok (H ++ H') → ∀ x ∈ l, FunH Tryz.prog f (agg x.enc :: capt) (H ++ H') (.d (.bool (p x)))) :
    FunH Tryz.prog 191 [.d (.sl false (l.map VE.enc)), .fn (.func f) [] capt] H (.tup [agg ((l.find? p).getD zVE).enc, .d (.bool (l.find? p).isSome)]) := by
  refine ACalls.of_awp false Tryz.func191 (by decide) rfl ?_
  simp only [show Tryz.f191.ntmps = 18 from rfl, List.length_cons, List.length_nil, Nat.reduceAdd, Nat.reduceSub, List.replicate, List.cons_append, List.nil_append, agg, List.map_cons, List.map_nil]
  have hz : List.map AV.d zVE.enc = [.d (.str []), .d (.sl false []), .d (.int .i64 0), .d (.str []), .d (.str []), .d (.sl false []), .d (.sl false [])] := by rfl
  simp only [go_sem]
  refine (idx_ve l p f capt hl (Hok.app hok (by simp [HO.inS, go_sem])) (fun x hx => hc _ (Hok.app hok (by simp [HO.inS, go_sem])) x hx)).call ?_
  have hif := idx_find p l 0
  cases hf : l.find? p with
  | none =>
    rw [hf] at hif
    have hif : idx p l 0 = -1 := hif
    simp only [go_sem, hif, Option.isSome_none, Option.getD_none]
    refine cnd_if (fun h => absurd h (by decide)) (fun _ => ?_)
    simp only [go_sem]
    refine res_storeAll get_new rfl rfl rfl ?_
    simp only [go_sem]
    rw [show Tryz.f191.results.toList = [.cell 4 101, .tmp 5] from rfl]
    refine ret_back (r := _) (by simp only [ares, aresL, ares1_cell, ares1_tmp, go_sem]; rfl) ?_ (by simp [go_sem]) hok
    rw [hz]; simp [go_sem]
  | some x =>
    rw [hf] at hif
    obtain ⟨k, h1, h2⟩ := hif
    rw [Nat.zero_add] at h1
    have hlt := (List.getElem?_eq_some_iff.1 h2).1
    simp only [go_sem, h1, Option.isSome_some, Option.getD_some]
    refine cnd_if (fun _ => ?_) (fun h => absurd (by omega) h)
    simp only [go_sem]
    refine res_index rfl rfl (by omega) (x := x.enc) (by rw [at_nat, List.getElem?_map, h2]; rfl) (VE.enc_len _) ?_
    simp only [go_sem, List.take_of_length_le (Nat.le_of_eq (VE.enc_len _))]
    refine res_storeAll get_new (by simp [AV.one]) (by simp [VE.enc_len]) rfl ?_
    simp only [go_sem]
    rw [show Tryz.f191.results.toList = [.cell 4 101, .tmp 5] from rfl]
    refine ret_back (r := _) (by simp only [ares, aresL, ares1_cell, ares1_tmp, go_sem]; rfl) ?_ (by simp [go_sem, agg]) hok
    simp [go_sem, agg]

theorem idx_ae (l : List AE) (p : AE → Bool) (f : FuncId) (capt : List AV) (hl : l.length ≤ 1048576) (hok : Hok H) (hc : ∀ x ∈ l, FunH Tryz.prog f (agg x.enc :: capt) H (.d (.bool (p x)))) :
    FunH Tryz.prog 56 [.d (.sl false (l.map AE.enc)), .fn (.func f) [] capt] H (.d (.int .i64 (idx p l 0))) := by
  refine ACalls.of_awp false Tryz.func56 (by decide) rfl ?_
  simp only [show Tryz.f56.ntmps = 19 from rfl, List.length_cons, List.length_nil, Nat.reduceAdd, Nat.reduceSub, List.replicate, List.cons_append, List.nil_append, agg, List.map_cons, List.map_nil]
  simp only [go_sem]
  refine awp_loop (ι := Nat) (fun i => [.d (.sl false (l.map AE.enc)), .fn (.func f) [] capt, .any, .any, .any, .any, .any, .d (.int .i64 l.length), .d (.int .i64 i), .any, .any, .any, .any, .any, .any, .any, .any, .any, .any]) (fun _ => H) (fun i => l.length - i) (fun i => i ≤ l.length ∧ idx p l 0 = idx p (l.drop i) i) 0 ⟨by omega, rfl⟩ (Weak.les (by repeat (first | exact lesA_nil | refine lesA_cons (AV.le_any _) ?_ | refine lesA_cons (AV.le_refl _) ?_ | refine lesA_cons (AV.le_pure rfl) ?_))) ?_
  rintro i ⟨hi, ha⟩
  simp only [go_sem]
  refine cnd_lt (fun hlt => ?_) (fun hge => ?_)
  · have hd := List.drop_eq_getElem_cons hlt
    rw [hd, idx] at ha
    simp only [go_sem]
    refine res_index rfl rfl (by omega) (map_at AE.enc hlt) (AE.enc_len _) ?_
    simp only [go_sem, List.take_of_length_le (Nat.le_of_eq (AE.enc_len _))]
    refine (hc _ (List.getElem_mem hlt)).call ?_
    cases hp : p l[i]
    · simp only [go_sem, wrap_succ (i := i) (by omega)]
      exact ⟨i + 1, by show _ - (i + 1) < _ - i; omega, ⟨hlt, by rw [ha, hp]; rfl⟩, Weak.les (by repeat (first | exact lesA_nil | refine lesA_cons (AV.le_any _) ?_ | refine lesA_cons (AV.le_refl _) ?_ | refine lesA_cons (AV.le_pure rfl) ?_))⟩
    · simp only [go_sem]
      refine ret_back0 rfl ?_ rfl hok
      rw [ha, hp]; simp [go_sem]
  · simp only [go_sem]
    have hnil : l.drop i = [] := List.drop_eq_nil_of_le hge
    refine ret_back0 rfl ?_ rfl hok
    rw [ha, hnil]; simp [go_sem, idx]

theorem first_ae (l : List AE) (p : AE → Bool) (f : FuncId) (capt : List AV) (hl : l.length ≤ 1048576) (hok : Hok H) (hcap : AV.inSs (· < H.length) capt) (hc : ∀ H', Hok (H ++ H') → ∀ x ∈ l, FunH Tryz.prog f (agg x.enc :: capt) (H ++ H') (.d (.bool (p x)))) :
    FunH Tryz.prog 193 [.d (.sl false (l.map AE.enc)), .fn (.func f) [] capt] H (.tup [agg ((l.find? p).getD zAE).enc, .d (.bool (l.find? p).isSome)]) := by
  refine ACalls.of_awp false Tryz.func193 (by decide) rfl ?_
  simp only [show Tryz.f193.ntmps = 18 from rfl, List.length_cons, List.length_nil, Nat.reduceAdd, Nat.reduceSub, List.replicate, List.cons_append, List.nil_append, agg, List.map_cons, List.map_nil]
  have hz : List.map AV.d zAE.enc = [.d (.str []), .d (.str []), .d (.str [])] := by rfl
  simp only [go_sem]
  refine (idx_ae l p f capt hl (Hok.app hok (by simp [HO.inS, go_sem])) (fun x hx => hc _ (Hok.app hok (by simp [HO.inS, go_sem])) x hx)).call ?_
  have hif := idx_find p l 0
  cases hf : l.find? p with
  | none =>
    rw [hf] at hif
    have hif : idx p l 0 = -1 := hif
    simp only [go_sem, hif, Option.isSome_none, Option.getD_none]
    refine cnd_if (fun h => absurd h (by decide)) (fun _ => ?_)
    simp only [go_sem]
    refine res_storeAll get_new rfl rfl rfl ?_
    simp only [go_sem]
    rw [show Tryz.f193.results.toList = [.cell 4 106, .tmp 5] from rfl]
    refine ret_back (r := _) (by simp only [ares, aresL, ares1_cell, ares1_tmp, go_sem]; rfl) ?_ (by simp [go_sem]) hok
    rw [hz]; simp [go_sem]
  | some x =>
    rw [hf] at hif
    obtain ⟨k, h1, h2⟩ := hif
    rw [Nat.zero_add] at h1
    have hlt := (List.getElem?_eq_some_iff.1 h2).1
    simp only [go_sem, h1, Option.isSome_some, Option.getD_some]
    refine cnd_if (fun _ => ?_) (fun h => absurd (by omega) h)
    simp only [go_sem]
    refine res_index rfl rfl (by omega) (x := x.enc) (by rw [at_nat, List.getElem?_map, h2]; rfl) (AE.enc_len _) ?_
    simp only [go_sem, List.take_of_length_le (Nat.le_of_eq (AE.enc_len _))]
    refine res_storeAll get_new (by simp [AV.one]) (by simp [AE.enc_len]) rfl ?_
    simp only [go_sem]
    rw [show Tryz.f193.results.toList = [.cell 4 106, .tmp 5] from rfl]
    refine ret_back (r := _) (by simp only [ares, aresL, ares1_cell, ares1_tmp, go_sem]; rfl) ?_ (by simp [go_sem, agg]) hok
    simp [go_sem, agg]

/-! ### the program's find, lookup -/
theorem find_eqIf (p : Str) : ∀ l : List If, l.find? (fun x => decide (x.path = p)) = fIf p l
  | [] => rfl
  | x :: l => by simp only [List.find?, fIf, find_eqIf p l]; by_cases h : x.path = p <;> simp [h]
theorem find_eqTE (p : Str) : ∀ l : List TE, l.find? (fun x => decide (x.name = p)) = fTE p l
  | [] => rfl
  | x :: l => by simp only [List.find?, fTE, find_eqTE p l]; by_cases h : x.name = p <;> simp [h]
theorem find_eqVE (p : Str) : ∀ l : List VE, l.find? (fun x => decide (x.name = p)) = fVE p l
  | [] => rfl
  | x :: l => by simp only [List.find?, fVE, find_eqVE p l]; by_cases h : x.name = p <;> simp [h]
theorem find_eqAE (p : Str) : ∀ l : List AE, l.find? (fun x => decide (x.name = p)) = fAE p l
  | [] => rfl
  | x :: l => by simp only [List.find?, fAE, find_eqAE p l]; by_cases h : x.name = p <;> simp [h]

theorem find1_ok (x : If) (p : Str) (id : Nat) (hid : H[id]? = some (.cells [.d (.str p)])) (hok : Hok H) : FunH Tryz.prog 112 [agg x.enc, .ptr id 0] H (.d (.bool (decide (x.path = p)))) := by
  refine ACalls.of_awp false Tryz.func112 (by decide) rfl ?_
  simp only [show Tryz.f112.ntmps = 8 from rfl, List.length_cons, List.length_nil, Nat.reduceAdd, Nat.reduceSub, List.replicate, List.cons_append, List.nil_append, agg, List.map_cons, List.map_nil]
  simp only [If.enc_eq, List.map_cons, List.map_nil]
  simp only [go_sem, hcells_old hid]
  exact ret_back rfl (by simp [go_sem]) rfl hok

theorem env_find (env : Env) (p : Str) (hl : env.length ≤ 1048576) : Fun Tryz.prog 68 [.d (.sl false (env.map If.enc)), .d (.str p)] (.tup [agg ((fIf p env).getD zIf).enc, .d (.bool (fIf p env).isSome)]) := by
  refine ACalls.of_awp false Tryz.func68 (by decide) rfl ?_
  simp only [show Tryz.f68.ntmps = 11 from rfl, List.length_cons, List.length_nil, Nat.reduceAdd, Nat.reduceSub, List.replicate, List.cons_append, List.nil_append, agg, List.map_cons, List.map_nil]
  simp only [go_sem]
  refine (first_if env (fun x => decide (x.path = p)) 112 [.ptr 0 0] hl (by simp [Hok, HO.inS, go_sem]) (by simp [go_sem]) (fun H' hk x _ => find1_ok x p 0 rfl hk)).call ?_
  · rw [find_eqIf]
    simp only [go_sem, agg]
    refine res_storeAll rfl (by simp [AV.one]) (by simp [If.enc_len]) rfl ?_
    simp only [go_sem]
    rw [show Tryz.f68.results.toList = [.cell 4 40, .tmp 5] from rfl]; refine ret_fun (by simp only [ares, aresL, ares1_cell, ares1_tmp, go_sem]; rfl) ?_ (by simp [go_sem, agg])
    simp [go_sem, agg]

structure Ent where
  module : Str
  name : Str
  typ : Option TE
  value : Option VE
  alias' : Option AE
def pt {α : Type} (f : α → List D) : Option α → D
  | none => .con (.pointer none)
  | some x => .ptr (f x)
def Ent.enc (e : Ent) : List D := [.str e.module, .str e.name, pt TE.enc e.typ, pt VE.enc e.value, pt AE.enc e.alias']
def zEnt : Ent := ⟨[], [], none, none, none⟩
theorem Ent.enc_len (e : Ent) : e.enc.length = 5 := by rfl
theorem Ent.enc_norm (e : Ent) : D.normL e.enc = e.enc := by
  obtain ⟨m, n, a, b, c⟩ := e
  cases a <;> cases b <;> cases c <;> simp [Ent.enc, pt, go_sem]
def lookup (env : Env) (m s : Str) : Ent × Bool :=
  match fIf m env with
  | none => (⟨m, s, none, none, none⟩, false)
  | some i => match fTE s i.types with
    | some x => (⟨m, s, some x, none, none⟩, true)
    | none => match fVE s i.values with
      | some x => (⟨m, s, none, some x, none⟩, true)
      | none => match fAE s i.aliases with
        | some x => (⟨m, s, none, none, some x⟩, true)
        | none => (⟨m, s, none, none, some zAE⟩, false)

theorem toDs_map (l : List D) : toDs (l.map AV.d) = some l := by
  induction l with
  | nil => rfl
  | cons d l ih => simp [toDs, AV.toD, ih]

theorem lk1_ok (x : TE) (p : Str) (id : Nat) (hid : H[id]? = some (.cells [.d (.str p)])) (hok : Hok H) : FunH Tryz.prog 190 [agg x.enc, .ptr id 0] H (.d (.bool (decide (x.name = p)))) := by
  refine ACalls.of_awp false Tryz.func190 (by decide) rfl ?_
  simp only [show Tryz.f190.ntmps = 8 from rfl, List.length_cons, List.length_nil, Nat.reduceAdd, Nat.reduceSub, List.replicate, List.cons_append, List.nil_append, agg, List.map_cons, List.map_nil]
  simp only [TE.enc_eq, List.map_cons, List.map_nil, List.map_append]
  simp only [go_sem, hcells_old hid]
  exact ret_back rfl (by simp [go_sem]) rfl hok

theorem lk2_ok (x : VE) (p : Str) (id : Nat) (hid : H[id]? = some (.cells [.d (.str p)])) (hok : Hok H) : FunH Tryz.prog 192 [agg x.enc, .ptr id 0] H (.d (.bool (decide (x.name = p)))) := by
  refine ACalls.of_awp false Tryz.func192 (by decide) rfl ?_
  simp only [show Tryz.f192.ntmps = 8 from rfl, List.length_cons, List.length_nil, Nat.reduceAdd, Nat.reduceSub, List.replicate, List.cons_append, List.nil_append, agg, List.map_cons, List.map_nil]
  simp only [VE.enc_eq, List.map_cons, List.map_nil, List.map_append]
  simp only [go_sem, hcells_old hid]
  exact ret_back rfl (by simp [go_sem]) rfl hok

theorem lk3_ok (x : AE) (p : Str) (id : Nat) (hid : H[id]? = some (.cells [.d (.str p)])) (hok : Hok H) : FunH Tryz.prog 194 [agg x.enc, .ptr id 0] H (.d (.bool (decide (x.name = p)))) := by
  refine ACalls.of_awp false Tryz.func194 (by decide) rfl ?_
  simp only [show Tryz.f194.ntmps = 8 from rfl, List.length_cons, List.length_nil, Nat.reduceAdd, Nat.reduceSub, List.replicate, List.cons_append, List.nil_append, agg, List.map_cons, List.map_nil]
  simp only [AE.enc_eq, List.map_cons, List.map_nil, List.map_append]
  simp only [go_sem, hcells_old hid]
  exact ret_back rfl (by simp [go_sem]) rfl hok

theorem env_lookup (env : Env) (m s : Str) (hg : env.good) : Fun Tryz.prog 143 [.d (.sl false (env.map If.enc)), .d (.str m), .d (.str s)] (.tup [agg (lookup env m s).1.enc, .d (.bool (lookup env m s).2)]) := by
  refine ACalls.of_awp false Tryz.func143 (by decide) rfl ?_
  simp only [show Tryz.f143.ntmps = 58 from rfl, List.length_cons, List.length_nil, Nat.reduceAdd, Nat.reduceSub, List.replicate, List.cons_append, List.nil_append, agg, List.map_cons, List.map_nil]
  simp only [go_sem]
  refine (env_find env m hg.len).call (by simp only [go_sem]) (by simp [go_sem, agg]) ?_
  simp only [go_sem, agg]
  refine res_storeAll rfl (by simp [AV.one]) (by simp [If.enc_len]) rfl ?_
  simp only [go_sem]
  refine res_of (x := .agg [.d (.str m), .d (.str s), .d (.con (.pointer none)), .d (.con (.pointer none)), .d (.con (.pointer none))]) rfl ?_
  simp only [go_sem]
  refine res_storeAll rfl rfl rfl rfl ?_
  simp only [go_sem]
  cases hf : fIf m env with
  | none =>
    have hv : lookup env m s = (⟨m, s, none, none, none⟩, false) := by simp only [lookup, hf]
    rw [hv]
    simp only [go_sem, Option.isSome_none, Option.getD_none, If.enc_eq]
    refine res_storeAll rfl rfl rfl rfl ?_
    simp only [go_sem]
    rw [show Tryz.f143.results.toList = [.cell 6 147, .tmp 7] from rfl]; refine ret_fun (by simp only [ares, aresL, ares1_cell, ares1_tmp, go_sem]; rfl) ?_ (by simp [go_sem, agg])
    simp [go_sem, agg, Ent.enc, pt]
  | some i =>
    have hi := (fIf_mem hf).1
    simp only [go_sem, Option.isSome_some, Option.getD_some, If.enc_eq]
    refine (first_te i.types (fun x => decide (x.name = s)) 190 [.ptr 0 0] (hg.types i hi) (by simp [Hok, HO.inS, go_sem]) (by simp [go_sem]) (fun H' hk x _ => lk1_ok x s 0 rfl hk)).call ?_
    rw [find_eqTE]
    cases ht : fTE s i.types with
    | some x =>
      have hv : lookup env m s = (⟨m, s, some x, none, none⟩, true) := by simp only [lookup, hf, ht]
      rw [hv]
      simp only [go_sem, agg, Option.isSome_some, Option.getD_some]
      refine res_storeAll rfl (by simp [AV.one]) (by simp [TE.enc_len]) rfl ?_
      simp only [go_sem]
      refine res_store1 rfl rfl (by simp) ?_
      simp only [go_sem]
      refine res_storeAll rfl rfl rfl rfl ?_
      simp only [go_sem]
      rw [show Tryz.f143.results.toList = [.cell 6 147, .tmp 7] from rfl]
      refine ret_ok (by simp only [ares, aresL, ares1_cell, ares1_tmp, go_sem]; rfl) (.tup [agg (Ent.enc ⟨m, s, some x, none, none⟩), .d (.bool true)]) [] ((Weak.frz (id := 4) (ds := x.enc) rfl (toDs_map _)).trans (Weak.pures ?_ ?_)) rfl
      · simp [go_sem, AV.frzs, AV.frz, agg, Ent.enc, pt]
      · simp [go_sem, agg]
    | none =>
      simp only [go_sem, agg, Option.isSome_none, Option.getD_none]
      refine res_storeAll rfl (by simp [AV.one]) (by simp [TE.enc_len]) rfl ?_
      simp only [go_sem]
      refine (first_ve i.values (fun x => decide (x.name = s)) 192 [.ptr 0 0] (hg.values i hi) (by simp [Hok, HO.inS, go_sem]) (by simp [go_sem]) (fun H' hk x _ => lk2_ok x s 0 rfl hk)).call ?_
      rw [find_eqVE]
      cases hve : fVE s i.values with
      | some x =>
        have hv : lookup env m s = (⟨m, s, none, some x, none⟩, true) := by simp only [lookup, hf, ht, hve]
        rw [hv]
        simp only [go_sem, agg, Option.isSome_some, Option.getD_some]
        refine res_storeAll rfl (by simp [AV.one]) (by simp [VE.enc_len]) rfl ?_
        simp only [go_sem]
        refine res_store1 rfl rfl (by simp) ?_
        simp only [go_sem]
        refine res_storeAll rfl rfl rfl rfl ?_
        simp only [go_sem]
        rw [show Tryz.f143.results.toList = [.cell 6 147, .tmp 7] from rfl]
        refine ret_ok (by simp only [ares, aresL, ares1_cell, ares1_tmp, go_sem]; rfl) (.tup [agg (Ent.enc ⟨m, s, none, some x, none⟩), .d (.bool true)]) [] ((Weak.frz (id := 5) (ds := x.enc) rfl (toDs_map _)).trans (Weak.pures ?_ ?_)) rfl
        · simp [go_sem, AV.frzs, AV.frz, agg, Ent.enc, pt]
        · simp [go_sem, agg]
      | none =>
        simp only [go_sem, agg, Option.isSome_none, Option.getD_none]
        refine res_storeAll rfl (by simp [AV.one]) (by simp [VE.enc_len]) rfl ?_
        simp only [go_sem]
        refine (first_ae i.aliases (fun x => decide (x.name = s)) 194 [.ptr 0 0] (hg.aliases i hi) (by simp [Hok, HO.inS, go_sem]) (by simp [go_sem]) (fun H' hk x _ => lk3_ok x s 0 rfl hk)).call ?_
        rw [find_eqAE]
        cases hae : fAE s i.aliases with
        | some x =>
          have hv : lookup env m s = (⟨m, s, none, none, some x⟩, true) := by simp only [lookup, hf, ht, hve, hae]
          rw [hv]
          simp only [go_sem, agg, Option.isSome_some, Option.getD_some]
          refine res_storeAll rfl (by simp [AV.one]) (by simp [AE.enc_len]) rfl ?_
          simp only [go_sem]
          refine res_store1 rfl rfl (by simp) ?_
          simp only [go_sem]
          refine res_storeAll rfl rfl rfl rfl ?_
          simp only [go_sem]
          rw [show Tryz.f143.results.toList = [.cell 6 147, .tmp 7] from rfl]
          refine ret_ok (by simp only [ares, aresL, ares1_cell, ares1_tmp, go_sem]; rfl) (.tup [agg (Ent.enc ⟨m, s, none, none, some x⟩), .d (.bool true)]) [] ((Weak.frz (id := 6) (ds := x.enc) rfl (toDs_map _)).trans (Weak.pures ?_ ?_)) rfl
          · simp [go_sem, AV.frzs, AV.frz, agg, Ent.enc, pt]
          · simp [go_sem, agg]
        | none =>
          have hv : lookup env m s = (⟨m, s, none, none, some zAE⟩, false) := by simp only [lookup, hf, ht, hve, hae]
          rw [hv]
          simp only [go_sem, agg, Option.isSome_none, Option.getD_none]
          refine res_storeAll rfl (by simp [AV.one]) (by simp [AE.enc_len]) rfl ?_
          simp only [go_sem]
          refine res_store1 rfl rfl (by simp) ?_
          simp only [go_sem]
          refine res_storeAll rfl rfl rfl rfl ?_
          simp only [go_sem]
          rw [show Tryz.f143.results.toList = [.cell 6 147, .tmp 7] from rfl]
          refine ret_ok (by simp only [ares, aresL, ares1_cell, ares1_tmp, go_sem]; rfl) (.tup [agg (Ent.enc ⟨m, s, none, none, some zAE⟩), .d (.bool false)]) [] ((Weak.frz (id := 6) (ds := zAE.enc) rfl (toDs_map _)).trans (Weak.pures ?_ ?_)) rfl
          · simp [go_sem, AV.frzs, AV.frz, agg, Ent.enc, pt]
          · simp [go_sem, agg]

theorem endN_eq : True := trivial

end Go.Proofs.YthhmioodienlmaaGreatDoor

/- Drawn orders where some operations have to be looked at again at other heaps: step rules. -/
namespace Go.Proofs.YthhmioodienlmaaGreatDoor
open Go

variable {P : Program} {H : List HO}

def nxEq (P : Program) (m : Bool) (ops : Array Oper) (fin : Rec → List (List HO) → List AV → List HO → Prop) (o : Oper) (l : List Oper) (fl : List Bool) (d : Option Tmp) (ts : List AV) (H : List HO) (rc : Rec) (past : List (List HO)) (v : AV) (H' : List HO) : Prop := H' = H ∧ aDraw P m ops fin l fl (aput d v ts) H' (rc ++ [(o, v, ts)]) past
def nxEl (P : Program) (m : Bool) (ops : Array Oper) (fin : Rec → List (List HO) → List AV → List HO → Prop) (o : Oper) (l : List Oper) (fl : List Bool) (d : Option Tmp) (ts : List AV) (H : List HO) (rc : Rec) (past : List (List HO)) (v : AV) (H' : List HO) : Prop := aDraw P m ops fin l fl (aput d v ts) H' (rc ++ [(o, v, ts)]) (past ++ [H])
theorem aDraw_nil {m : Bool} {ops : Array Oper} {fin : Rec → List (List HO) → List AV → List HO → Prop} {fl : List Bool} {ts : List AV} {rc : Rec} {past : List (List HO)} : aDraw P m ops fin [] fl ts H rc past = fin rc (past ++ [H]) ts H := by rfl
theorem aDraw_q {m : Bool} {ops : Array Oper} {fin : Rec → List (List HO) → List AV → List HO → Prop} {d : Option Tmp} {op : Op} {t : TypeId} {pos : String} {af : Array Edge} {l : List Oper} {fl : List Bool} {ts : List AV} {rc : Rec} {past : List (List HO)} :
    aDraw P m ops fin (⟨d, op, t, pos, af, none⟩ :: l) (false :: fl) ts H rc past = aOpX P m op ts H (nxEq P m ops fin ⟨d, op, t, pos, af, none⟩ l fl d ts H rc past) := by
  simp only [aDraw, aWant, List.headD_cons, List.tail_cons, true_implies, Bool.false_eq_true, if_false]
  rfl
theorem aDraw_l {m : Bool} {ops : Array Oper} {fin : Rec → List (List HO) → List AV → List HO → Prop} {d : Option Tmp} {op : Op} {t : TypeId} {pos : String} {af : Array Edge} {l : List Oper} {fl : List Bool} {ts : List AV} {rc : Rec} {past : List (List HO)} :
    aDraw P m ops fin (⟨d, op, t, pos, af, none⟩ :: l) (true :: fl) ts H rc past = aOpX P m op ts H (nxEl P m ops fin ⟨d, op, t, pos, af, none⟩ l fl d ts H rc past) := by
  simp only [aDraw, aWant, List.headD_cons, List.tail_cons, if_true]
  congr 1
  funext v H'
  simp [nxEl]
theorem nxEq_run {m : Bool} {ops : Array Oper} {fin : Rec → List (List HO) → List AV → List HO → Prop} {o : Oper} {l : List Oper} {fl : List Bool} {d : Option Tmp} {ts : List AV} {rc : Rec} {past : List (List HO)} {v : AV} : nxEq P m ops fin o l fl d ts H rc past v H = aDraw P m ops fin l fl (aput d v ts) H (rc ++ [(o, v, ts)]) past := by simp [nxEq]
theorem nxEl_run {m : Bool} {ops : Array Oper} {fin : Rec → List (List HO) → List AV → List HO → Prop} {o : Oper} {l : List Oper} {fl : List Bool} {d : Option Tmp} {ts : List AV} {rc : Rec} {past : List (List HO)} {v : AV} {H' : List HO} : nxEl P m ops fin o l fl d ts H rc past v H' = aDraw P m ops fin l fl (aput d v ts) H' (rc ++ [(o, v, ts)]) (past ++ [H]) := by rfl
attribute [go_sem] aDraw_nil aDraw_q aDraw_l nxEq_run nxEl_run

theorem stepOk_plain {m : Bool} {ops : Array Oper} {d : Option Tmp} {op : Op} {t : TypeId} {pos : String} {af : Array Edge} {v : AV} {ts : List AV} {H' : List HO} (h : aOp P m op ts H (fun v' H2 => v' = v ∧ H2 = H')) : stepOk P m ops ⟨d, op, t, pos, af, none⟩ v ts H H' := h
theorem callX_of {f : FuncId} {args : List AV} {v : AV} {H' : List HO} {K : AV → List HO → Prop} (h : ACalls P f args H (fun v' H2 => v' = v ∧ H2 = H')) (hk : K v H') : callX P f args H K := ⟨v, H', h, hk⟩
theorem call_of {f : FuncId} {args : List AV} {v : AV} {H' : List HO} {K : AV → List HO → Prop} (h : ACalls P f args H (fun v' H2 => v' = v ∧ H2 = H')) (hk : K v H') : ACalls P f args H K := h.mono fun _ _ ⟨h1, h2⟩ => by subst h1; subst h2; exact hk

end Go.Proofs.YthhmioodienlmaaGreatDoor

/- Copies: slices.Clone, the program's copies of types, parameters and entries; substitution. -/
namespace Go.Proofs.YthhmioodienlmaaGreatDoor
open Go
set_option maxRecDepth 20000
set_option pp.deepTerms false
set_option pp.deepTerms.threshold 6
variable {P : Program} {G : List GI} {T : Tips} {K : Kmem} {w : World} {H : List HO}

/-- a word of our own: an object that is none -/
theorem Weak.dead {N : Nat} {ts : List AV} : Weak N ts H ts (H ++ [.dead]) := fun G K w vs hI hr hn => by
  obtain ⟨k1, k2⟩ := hI.adopt .dead .dead (fun b hb => by simp [GI.blocks] at hb) (by simp only [ObjRel]) (fun _ _ _ _ _ e => by cases e) (fun _ _ e => by cases e)
  refine ⟨_, K, k1, RelAs.evo (Kle.refl K) k2 hr, ⟨by simp; omega, k2.less hn, Kle.refl _, (fun b p v e1 e2 => by rw [e1] at e2; cases e2), ?_, Nat.le_refl _, fun _ _ _ => rfl, rfl, rfl, rfl⟩⟩
  rintro x ⟨i, g, hg, hb⟩
  rcases Nat.lt_or_ge i G.length with hi | hi
  · rw [List.getElem?_append_left hi] at hg; exact .inl ⟨i, g, hg, hb⟩
  · rw [List.getElem?_append_right hi] at hg
    cases hk : i - G.length with
    | zero => rw [hk] at hg; simp at hg; subst hg; simp [GI.blocks] at hb
    | succ k => rw [hk] at hg; simp at hg

theorem slNil_sl {c : Bool} {es : List (List D)} {K : AV → List HO → Prop} (h : ∀ b : Bool, (es ≠ [] → b = false) → K (.d (.bool b)) H) : binK .sl .eql (.d (.sl c es)) (.const (.slice none 0 0)) (.d (.sl true [])) H K := by
  simp only [binK, slNil, AV.toD]; exact h

theorem aAppend_m {te : TInf} {c : Bool} {es : List (List D)} {K : AV → List HO → Prop} (hx : ∀ x ∈ es, x.length = te.size) (hs : te.bytes ≤ 32768) (hl : es.length ≤ lim) (h0 : es = [] → K (.d (.sl true [])) H)
    (h1 : es ≠ [] → K (.arr H.length 0 es.length te.size) (H ++ [.cells (es.flatten.map .d)])) : aAppend true (some te) (.d (.sl true [])) (.d (.sl c es)) H K := by
  simp only [aAppend, elems?, List.nil_append]
  refine ⟨hx, hs, by simp, by simpa using hl, ?_⟩
  by_cases he : es = []
  · simp only [he, if_true]; exact ⟨by trivial, h0 he⟩
  · simp only [if_true, if_neg he]; exact h1 he

theorem clone_pa (es : List (List D)) (c : Bool) (hl : es.length ≤ 4294967296) (hu : ∀ e ∈ es, e.length = 7) :
    ACalls Tryz.prog 195 [.d (.sl c es)] H (fun x H' => x = .row (H.length + 1) 0 ∧ H' = H ++ [.dead, .row 0 7 es]) := by
  have hfl := flatten_len hu
  have empty : es = [] → Weak H.length [.d (.sl true [])] H [.row (H.length + 1) 0] (H ++ [.dead, .row 0 7 es]) := by
    intro he
    subst he
    have h1 : Weak H.length [.d (.sl true [])] H [.d (.sl true [])] (H ++ [.dead]) := Weak.dead
    have h2 : Weak H.length [.d (.sl true [])] (H ++ [.dead]) _ _ := Weak.mkrow (t := 0) 7 rfl
    have h3 := h1.trans h2
    simpa using h3
  refine ACalls.of_awp true Tryz.func195 (by decide) rfl ?_
  simp only [show Tryz.f195.ntmps = 8 from rfl, List.length_cons, List.length_nil, Nat.reduceAdd, Nat.reduceSub, List.replicate, List.cons_append, List.nil_append, agg, List.map_cons, List.map_nil]
  simp only [go_sem]
  refine slNil_sl fun b hb => ?_
  cases b
  · simp only [go_sem]
    refine aAppend_m hu (by decide) hl (fun he => ?_) (fun he => ?_)
    · simp only [go_sem]
      exact ret_ok (x := .d (.sl true [])) rfl _ _ (empty he) ⟨rfl, rfl⟩
    · simp only [go_sem]
      refine ret_ok (x := .arr H.length 0 es.length 7) rfl (.row (H.length + 1) 0) (H ++ [.dead, .row 0 7 es]) ?_ ⟨rfl, rfl⟩
      have := Weak.arrRow (N := H.length) (H := H ++ [.cells (es.flatten.map .d)]) (ts := [.arr H.length 0 es.length 7]) (t := 0) (id := H.length) (es := es) rfl (by simp) rfl hu
      simpa using this
  · have he : es = [] := Classical.byContradiction fun h => by have := hb h; cases this
    simp only [go_sem]
    exact ret_ok (x := .d (.sl true [])) rfl _ _ (empty he) ⟨rfl, rfl⟩

theorem cloneV_pa (es : List (List D)) (c : Bool) (hl : es.length ≤ 4294967296) (hu : ∀ e ∈ es, e.length = 7) :
    ACalls Tryz.prog 195 [.d (.sl c es)] H (fun x H' => x = .vec H.length es.length es ∧ H' = H ++ [.tip es.length 7]) := by
  have empty : es = [] → Weak H.length [.d (.sl true [])] H [.vec H.length es.length es] (H ++ [.tip es.length 7]) := by
    intro he
    subst he
    exact Weak.mkvec (t := 0) 7 rfl (by simp)
  refine ACalls.of_awp false Tryz.func195 (by decide) rfl ?_
  simp only [show Tryz.f195.ntmps = 8 from rfl, List.length_cons, List.length_nil, Nat.reduceAdd, Nat.reduceSub, List.replicate, List.cons_append, List.nil_append, agg, List.map_cons, List.map_nil]
  simp only [go_sem]
  refine slNil_sl fun b hb => ?_
  cases b
  · simp only [go_sem]
    refine aAppend_nil rfl hu (by decide) hl ?_
    simp only [go_sem]
    exact ret_ok (x := .vec H.length es.length es) rfl _ _ Weak.refl ⟨rfl, rfl⟩
  · have he : es = [] := Classical.byContradiction fun h => by have := hb h; cases this
    simp only [go_sem]
    exact ret_ok (x := .d (.sl true [])) rfl _ _ (empty he) ⟨rfl, rfl⟩

theorem clone_ty (es : List (List D)) (c : Bool) (hl : es.length ≤ 4294967296) (hu : ∀ e ∈ es, e.length = 5) :
    ACalls Tryz.prog 108 [.d (.sl c es)] H (fun x H' => x = .row (H.length + 1) 0 ∧ H' = H ++ [.dead, .row 0 5 es]) := by
  have hfl := flatten_len hu
  have empty : es = [] → Weak H.length [.d (.sl true [])] H [.row (H.length + 1) 0] (H ++ [.dead, .row 0 5 es]) := by
    intro he
    subst he
    have h1 : Weak H.length [.d (.sl true [])] H [.d (.sl true [])] (H ++ [.dead]) := Weak.dead
    have h2 : Weak H.length [.d (.sl true [])] (H ++ [.dead]) _ _ := Weak.mkrow (t := 0) 5 rfl
    have h3 := h1.trans h2
    simpa using h3
  refine ACalls.of_awp true Tryz.func108 (by decide) rfl ?_
  simp only [show Tryz.f108.ntmps = 8 from rfl, List.length_cons, List.length_nil, Nat.reduceAdd, Nat.reduceSub, List.replicate, List.cons_append, List.nil_append, agg, List.map_cons, List.map_nil]
  simp only [go_sem]
  refine slNil_sl fun b hb => ?_
  cases b
  · simp only [go_sem]
    refine aAppend_m hu (by decide) hl (fun he => ?_) (fun he => ?_)
    · simp only [go_sem]
      exact ret_ok (x := .d (.sl true [])) rfl _ _ (empty he) ⟨rfl, rfl⟩
    · simp only [go_sem]
      refine ret_ok (x := .arr H.length 0 es.length 5) rfl (.row (H.length + 1) 0) (H ++ [.dead, .row 0 5 es]) ?_ ⟨rfl, rfl⟩
      have := Weak.arrRow (N := H.length) (H := H ++ [.cells (es.flatten.map .d)]) (ts := [.arr H.length 0 es.length 5]) (t := 0) (id := H.length) (es := es) rfl (by simp) rfl hu
      simpa using this
  · have he : es = [] := Classical.byContradiction fun h => by have := hb h; cases this
    simp only [go_sem]
    exact ret_ok (x := .d (.sl true [])) rfl _ _ (empty he) ⟨rfl, rfl⟩

theorem cloneV_ty (es : List (List D)) (c : Bool) (hl : es.length ≤ 4294967296) (hu : ∀ e ∈ es, e.length = 5) :
    ACalls Tryz.prog 108 [.d (.sl c es)] H (fun x H' => x = .vec H.length es.length es ∧ H' = H ++ [.tip es.length 5]) := by
  have empty : es = [] → Weak H.length [.d (.sl true [])] H [.vec H.length es.length es] (H ++ [.tip es.length 5]) := by
    intro he
    subst he
    exact Weak.mkvec (t := 0) 5 rfl (by simp)
  refine ACalls.of_awp false Tryz.func108 (by decide) rfl ?_
  simp only [show Tryz.f108.ntmps = 8 from rfl, List.length_cons, List.length_nil, Nat.reduceAdd, Nat.reduceSub, List.replicate, List.cons_append, List.nil_append, agg, List.map_cons, List.map_nil]
  simp only [go_sem]
  refine slNil_sl fun b hb => ?_
  cases b
  · simp only [go_sem]
    refine aAppend_nil rfl hu (by decide) hl ?_
    simp only [go_sem]
    exact ret_ok (x := .vec H.length es.length es) rfl _ _ Weak.refl ⟨rfl, rfl⟩
  · have he : es = [] := Classical.byContradiction fun h => by have := hb h; cases this
    simp only [go_sem]
    exact ret_ok (x := .d (.sl true [])) rfl _ _ (empty he) ⟨rfl, rfl⟩

theorem clone_fd (es : List (List D)) (c : Bool) (hl : es.length ≤ 4294967296) (hu : ∀ e ∈ es, e.length = 7) :
    ACalls Tryz.prog 220 [.d (.sl c es)] H (fun x H' => x = .row (H.length + 1) 0 ∧ H' = H ++ [.dead, .row 0 7 es]) := by
  have hfl := flatten_len hu
  have empty : es = [] → Weak H.length [.d (.sl true [])] H [.row (H.length + 1) 0] (H ++ [.dead, .row 0 7 es]) := by
    intro he
    subst he
    have h1 : Weak H.length [.d (.sl true [])] H [.d (.sl true [])] (H ++ [.dead]) := Weak.dead
    have h2 : Weak H.length [.d (.sl true [])] (H ++ [.dead]) _ _ := Weak.mkrow (t := 0) 7 rfl
    have h3 := h1.trans h2
    simpa using h3
  refine ACalls.of_awp true Tryz.func220 (by decide) rfl ?_
  simp only [show Tryz.f220.ntmps = 8 from rfl, List.length_cons, List.length_nil, Nat.reduceAdd, Nat.reduceSub, List.replicate, List.cons_append, List.nil_append, agg, List.map_cons, List.map_nil]
  simp only [go_sem]
  refine slNil_sl fun b hb => ?_
  cases b
  · simp only [go_sem]
    refine aAppend_m hu (by decide) hl (fun he => ?_) (fun he => ?_)
    · simp only [go_sem]
      exact ret_ok (x := .d (.sl true [])) rfl _ _ (empty he) ⟨rfl, rfl⟩
    · simp only [go_sem]
      refine ret_ok (x := .arr H.length 0 es.length 7) rfl (.row (H.length + 1) 0) (H ++ [.dead, .row 0 7 es]) ?_ ⟨rfl, rfl⟩
      have := Weak.arrRow (N := H.length) (H := H ++ [.cells (es.flatten.map .d)]) (ts := [.arr H.length 0 es.length 7]) (t := 0) (id := H.length) (es := es) rfl (by simp) rfl hu
      simpa using this
  · have he : es = [] := Classical.byContradiction fun h => by have := hb h; cases this
    simp only [go_sem]
    exact ret_ok (x := .d (.sl true [])) rfl _ _ (empty he) ⟨rfl, rfl⟩

theorem cloneV_fd (es : List (List D)) (c : Bool) (hl : es.length ≤ 4294967296) (hu : ∀ e ∈ es, e.length = 7) :
    ACalls Tryz.prog 220 [.d (.sl c es)] H (fun x H' => x = .vec H.length es.length es ∧ H' = H ++ [.tip es.length 7]) := by
  have empty : es = [] → Weak H.length [.d (.sl true [])] H [.vec H.length es.length es] (H ++ [.tip es.length 7]) := by
    intro he
    subst he
    exact Weak.mkvec (t := 0) 7 rfl (by simp)
  refine ACalls.of_awp false Tryz.func220 (by decide) rfl ?_
  simp only [show Tryz.f220.ntmps = 8 from rfl, List.length_cons, List.length_nil, Nat.reduceAdd, Nat.reduceSub, List.replicate, List.cons_append, List.nil_append, agg, List.map_cons, List.map_nil]
  simp only [go_sem]
  refine slNil_sl fun b hb => ?_
  cases b
  · simp only [go_sem]
    refine aAppend_nil rfl hu (by decide) hl ?_
    simp only [go_sem]
    exact ret_ok (x := .vec H.length es.length es) rfl _ _ Weak.refl ⟨rfl, rfl⟩
  · have he : es = [] := Classical.byContradiction fun h => by have := hb h; cases this
    simp only [go_sem]
    exact ret_ok (x := .d (.sl true [])) rfl _ _ (empty he) ⟨rfl, rfl⟩

theorem clone_te (es : List (List D)) (c : Bool) (hl : es.length ≤ 4294967296) (hu : ∀ e ∈ es, e.length = 12) :
    ACalls Tryz.prog 113 [.d (.sl c es)] H (fun x H' => x = .row (H.length + 1) 0 ∧ H' = H ++ [.dead, .row 0 12 es]) := by
  have hfl := flatten_len hu
  have empty : es = [] → Weak H.length [.d (.sl true [])] H [.row (H.length + 1) 0] (H ++ [.dead, .row 0 12 es]) := by
    intro he
    subst he
    have h1 : Weak H.length [.d (.sl true [])] H [.d (.sl true [])] (H ++ [.dead]) := Weak.dead
    have h2 : Weak H.length [.d (.sl true [])] (H ++ [.dead]) _ _ := Weak.mkrow (t := 0) 12 rfl
    have h3 := h1.trans h2
    simpa using h3
  refine ACalls.of_awp true Tryz.func113 (by decide) rfl ?_
  simp only [show Tryz.f113.ntmps = 8 from rfl, List.length_cons, List.length_nil, Nat.reduceAdd, Nat.reduceSub, List.replicate, List.cons_append, List.nil_append, agg, List.map_cons, List.map_nil]
  simp only [go_sem]
  refine slNil_sl fun b hb => ?_
  cases b
  · simp only [go_sem]
    refine aAppend_m hu (by decide) hl (fun he => ?_) (fun he => ?_)
    · simp only [go_sem]
      exact ret_ok (x := .d (.sl true [])) rfl _ _ (empty he) ⟨rfl, rfl⟩
    · simp only [go_sem]
      refine ret_ok (x := .arr H.length 0 es.length 12) rfl (.row (H.length + 1) 0) (H ++ [.dead, .row 0 12 es]) ?_ ⟨rfl, rfl⟩
      have := Weak.arrRow (N := H.length) (H := H ++ [.cells (es.flatten.map .d)]) (ts := [.arr H.length 0 es.length 12]) (t := 0) (id := H.length) (es := es) rfl (by simp) rfl hu
      simpa using this
  · have he : es = [] := Classical.byContradiction fun h => by have := hb h; cases this
    simp only [go_sem]
    exact ret_ok (x := .d (.sl true [])) rfl _ _ (empty he) ⟨rfl, rfl⟩

theorem cloneV_te (es : List (List D)) (c : Bool) (hl : es.length ≤ 4294967296) (hu : ∀ e ∈ es, e.length = 12) :
    ACalls Tryz.prog 113 [.d (.sl c es)] H (fun x H' => x = .vec H.length es.length es ∧ H' = H ++ [.tip es.length 12]) := by
  have empty : es = [] → Weak H.length [.d (.sl true [])] H [.vec H.length es.length es] (H ++ [.tip es.length 12]) := by
    intro he
    subst he
    exact Weak.mkvec (t := 0) 12 rfl (by simp)
  refine ACalls.of_awp false Tryz.func113 (by decide) rfl ?_
  simp only [show Tryz.f113.ntmps = 8 from rfl, List.length_cons, List.length_nil, Nat.reduceAdd, Nat.reduceSub, List.replicate, List.cons_append, List.nil_append, agg, List.map_cons, List.map_nil]
  simp only [go_sem]
  refine slNil_sl fun b hb => ?_
  cases b
  · simp only [go_sem]
    refine aAppend_nil rfl hu (by decide) hl ?_
    simp only [go_sem]
    exact ret_ok (x := .vec H.length es.length es) rfl _ _ Weak.refl ⟨rfl, rfl⟩
  · have he : es = [] := Classical.byContradiction fun h => by have := hb h; cases this
    simp only [go_sem]
    exact ret_ok (x := .d (.sl true [])) rfl _ _ (empty he) ⟨rfl, rfl⟩

theorem clone_ve (es : List (List D)) (c : Bool) (hl : es.length ≤ 4294967296) (hu : ∀ e ∈ es, e.length = 7) :
    ACalls Tryz.prog 114 [.d (.sl c es)] H (fun x H' => x = .row (H.length + 1) 0 ∧ H' = H ++ [.dead, .row 0 7 es]) := by
  have hfl := flatten_len hu
  have empty : es = [] → Weak H.length [.d (.sl true [])] H [.row (H.length + 1) 0] (H ++ [.dead, .row 0 7 es]) := by
    intro he
    subst he
    have h1 : Weak H.length [.d (.sl true [])] H [.d (.sl true [])] (H ++ [.dead]) := Weak.dead
    have h2 : Weak H.length [.d (.sl true [])] (H ++ [.dead]) _ _ := Weak.mkrow (t := 0) 7 rfl
    have h3 := h1.trans h2
    simpa using h3
  refine ACalls.of_awp true Tryz.func114 (by decide) rfl ?_
  simp only [show Tryz.f114.ntmps = 8 from rfl, List.length_cons, List.length_nil, Nat.reduceAdd, Nat.reduceSub, List.replicate, List.cons_append, List.nil_append, agg, List.map_cons, List.map_nil]
  simp only [go_sem]
  refine slNil_sl fun b hb => ?_
  cases b
  · simp only [go_sem]
    refine aAppend_m hu (by decide) hl (fun he => ?_) (fun he => ?_)
    · simp only [go_sem]
      exact ret_ok (x := .d (.sl true [])) rfl _ _ (empty he) ⟨rfl, rfl⟩
    · simp only [go_sem]
      refine ret_ok (x := .arr H.length 0 es.length 7) rfl (.row (H.length + 1) 0) (H ++ [.dead, .row 0 7 es]) ?_ ⟨rfl, rfl⟩
      have := Weak.arrRow (N := H.length) (H := H ++ [.cells (es.flatten.map .d)]) (ts := [.arr H.length 0 es.length 7]) (t := 0) (id := H.length) (es := es) rfl (by simp) rfl hu
      simpa using this
  · have he : es = [] := Classical.byContradiction fun h => by have := hb h; cases this
    simp only [go_sem]
    exact ret_ok (x := .d (.sl true [])) rfl _ _ (empty he) ⟨rfl, rfl⟩

theorem cloneV_ve (es : List (List D)) (c : Bool) (hl : es.length ≤ 4294967296) (hu : ∀ e ∈ es, e.length = 7) :
    ACalls Tryz.prog 114 [.d (.sl c es)] H (fun x H' => x = .vec H.length es.length es ∧ H' = H ++ [.tip es.length 7]) := by
  have empty : es = [] → Weak H.length [.d (.sl true [])] H [.vec H.length es.length es] (H ++ [.tip es.length 7]) := by
    intro he
    subst he
    exact Weak.mkvec (t := 0) 7 rfl (by simp)
  refine ACalls.of_awp false Tryz.func114 (by decide) rfl ?_
  simp only [show Tryz.f114.ntmps = 8 from rfl, List.length_cons, List.length_nil, Nat.reduceAdd, Nat.reduceSub, List.replicate, List.cons_append, List.nil_append, agg, List.map_cons, List.map_nil]
  simp only [go_sem]
  refine slNil_sl fun b hb => ?_
  cases b
  · simp only [go_sem]
    refine aAppend_nil rfl hu (by decide) hl ?_
    simp only [go_sem]
    exact ret_ok (x := .vec H.length es.length es) rfl _ _ Weak.refl ⟨rfl, rfl⟩
  · have he : es = [] := Classical.byContradiction fun h => by have := hb h; cases this
    simp only [go_sem]
    exact ret_ok (x := .d (.sl true [])) rfl _ _ (empty he) ⟨rfl, rfl⟩

theorem clone_ae (es : List (List D)) (c : Bool) (hl : es.length ≤ 4294967296) (hu : ∀ e ∈ es, e.length = 3) :
    ACalls Tryz.prog 116 [.d (.sl c es)] H (fun x H' => x = .row (H.length + 1) 0 ∧ H' = H ++ [.dead, .row 0 3 es]) := by
  have hfl := flatten_len hu
  have empty : es = [] → Weak H.length [.d (.sl true [])] H [.row (H.length + 1) 0] (H ++ [.dead, .row 0 3 es]) := by
    intro he
    subst he
    have h1 : Weak H.length [.d (.sl true [])] H [.d (.sl true [])] (H ++ [.dead]) := Weak.dead
    have h2 : Weak H.length [.d (.sl true [])] (H ++ [.dead]) _ _ := Weak.mkrow (t := 0) 3 rfl
    have h3 := h1.trans h2
    simpa using h3
  refine ACalls.of_awp true Tryz.func116 (by decide) rfl ?_
  simp only [show Tryz.f116.ntmps = 8 from rfl, List.length_cons, List.length_nil, Nat.reduceAdd, Nat.reduceSub, List.replicate, List.cons_append, List.nil_append, agg, List.map_cons, List.map_nil]
  simp only [go_sem]
  refine slNil_sl fun b hb => ?_
  cases b
  · simp only [go_sem]
    refine aAppend_m hu (by decide) hl (fun he => ?_) (fun he => ?_)
    · simp only [go_sem]
      exact ret_ok (x := .d (.sl true [])) rfl _ _ (empty he) ⟨rfl, rfl⟩
    · simp only [go_sem]
      refine ret_ok (x := .arr H.length 0 es.length 3) rfl (.row (H.length + 1) 0) (H ++ [.dead, .row 0 3 es]) ?_ ⟨rfl, rfl⟩
      have := Weak.arrRow (N := H.length) (H := H ++ [.cells (es.flatten.map .d)]) (ts := [.arr H.length 0 es.length 3]) (t := 0) (id := H.length) (es := es) rfl (by simp) rfl hu
      simpa using this
  · have he : es = [] := Classical.byContradiction fun h => by have := hb h; cases this
    simp only [go_sem]
    exact ret_ok (x := .d (.sl true [])) rfl _ _ (empty he) ⟨rfl, rfl⟩

theorem cloneV_ae (es : List (List D)) (c : Bool) (hl : es.length ≤ 4294967296) (hu : ∀ e ∈ es, e.length = 3) :
    ACalls Tryz.prog 116 [.d (.sl c es)] H (fun x H' => x = .vec H.length es.length es ∧ H' = H ++ [.tip es.length 3]) := by
  have empty : es = [] → Weak H.length [.d (.sl true [])] H [.vec H.length es.length es] (H ++ [.tip es.length 3]) := by
    intro he
    subst he
    exact Weak.mkvec (t := 0) 3 rfl (by simp)
  refine ACalls.of_awp false Tryz.func116 (by decide) rfl ?_
  simp only [show Tryz.f116.ntmps = 8 from rfl, List.length_cons, List.length_nil, Nat.reduceAdd, Nat.reduceSub, List.replicate, List.cons_append, List.nil_append, agg, List.map_cons, List.map_nil]
  simp only [go_sem]
  refine slNil_sl fun b hb => ?_
  cases b
  · simp only [go_sem]
    refine aAppend_nil rfl hu (by decide) hl ?_
    simp only [go_sem]
    exact ret_ok (x := .vec H.length es.length es) rfl _ _ Weak.refl ⟨rfl, rfl⟩
  · have he : es = [] := Classical.byContradiction fun h => by have := hb h; cases this
    simp only [go_sem]
    exact ret_ok (x := .d (.sl true [])) rfl _ _ (empty he) ⟨rfl, rfl⟩

theorem clone_de (es : List (List D)) (c : Bool) (hl : es.length ≤ 4294967296) (hu : ∀ e ∈ es, e.length = 2) :
    ACalls Tryz.prog 117 [.d (.sl c es)] H (fun x H' => x = .row (H.length + 1) 0 ∧ H' = H ++ [.dead, .row 0 2 es]) := by
  have hfl := flatten_len hu
  have empty : es = [] → Weak H.length [.d (.sl true [])] H [.row (H.length + 1) 0] (H ++ [.dead, .row 0 2 es]) := by
    intro he
    subst he
    have h1 : Weak H.length [.d (.sl true [])] H [.d (.sl true [])] (H ++ [.dead]) := Weak.dead
    have h2 : Weak H.length [.d (.sl true [])] (H ++ [.dead]) _ _ := Weak.mkrow (t := 0) 2 rfl
    have h3 := h1.trans h2
    simpa using h3
  refine ACalls.of_awp true Tryz.func117 (by decide) rfl ?_
  simp only [show Tryz.f117.ntmps = 8 from rfl, List.length_cons, List.length_nil, Nat.reduceAdd, Nat.reduceSub, List.replicate, List.cons_append, List.nil_append, agg, List.map_cons, List.map_nil]
  simp only [go_sem]
  refine slNil_sl fun b hb => ?_
  cases b
  · simp only [go_sem]
    refine aAppend_m hu (by decide) hl (fun he => ?_) (fun he => ?_)
    · simp only [go_sem]
      exact ret_ok (x := .d (.sl true [])) rfl _ _ (empty he) ⟨rfl, rfl⟩
    · simp only [go_sem]
      refine ret_ok (x := .arr H.length 0 es.length 2) rfl (.row (H.length + 1) 0) (H ++ [.dead, .row 0 2 es]) ?_ ⟨rfl, rfl⟩
      have := Weak.arrRow (N := H.length) (H := H ++ [.cells (es.flatten.map .d)]) (ts := [.arr H.length 0 es.length 2]) (t := 0) (id := H.length) (es := es) rfl (by simp) rfl hu
      simpa using this
  · have he : es = [] := Classical.byContradiction fun h => by have := hb h; cases this
    simp only [go_sem]
    exact ret_ok (x := .d (.sl true [])) rfl _ _ (empty he) ⟨rfl, rfl⟩

theorem cloneV_de (es : List (List D)) (c : Bool) (hl : es.length ≤ 4294967296) (hu : ∀ e ∈ es, e.length = 2) :
    ACalls Tryz.prog 117 [.d (.sl c es)] H (fun x H' => x = .vec H.length es.length es ∧ H' = H ++ [.tip es.length 2]) := by
  have empty : es = [] → Weak H.length [.d (.sl true [])] H [.vec H.length es.length es] (H ++ [.tip es.length 2]) := by
    intro he
    subst he
    exact Weak.mkvec (t := 0) 2 rfl (by simp)
  refine ACalls.of_awp false Tryz.func117 (by decide) rfl ?_
  simp only [show Tryz.f117.ntmps = 8 from rfl, List.length_cons, List.length_nil, Nat.reduceAdd, Nat.reduceSub, List.replicate, List.cons_append, List.nil_append, agg, List.map_cons, List.map_nil]
  simp only [go_sem]
  refine slNil_sl fun b hb => ?_
  cases b
  · simp only [go_sem]
    refine aAppend_nil rfl hu (by decide) hl ?_
    simp only [go_sem]
    exact ret_ok (x := .vec H.length es.length es) rfl _ _ Weak.refl ⟨rfl, rfl⟩
  · have he : es = [] := Classical.byContradiction fun h => by have := hb h; cases this
    simp only [go_sem]
    exact ret_ok (x := .d (.sl true [])) rfl _ _ (empty he) ⟨rfl, rfl⟩

theorem clone_st (es : List (List D)) (c : Bool) (hl : es.length ≤ 4294967296) (hu : ∀ e ∈ es, e.length = 1) :
    ACalls Tryz.prog 78 [.d (.sl c es)] H (fun x H' => x = .row (H.length + 1) 0 ∧ H' = H ++ [.dead, .row 0 1 es]) := by
  have hfl := flatten_len hu
  have empty : es = [] → Weak H.length [.d (.sl true [])] H [.row (H.length + 1) 0] (H ++ [.dead, .row 0 1 es]) := by
    intro he
    subst he
    have h1 : Weak H.length [.d (.sl true [])] H [.d (.sl true [])] (H ++ [.dead]) := Weak.dead
    have h2 : Weak H.length [.d (.sl true [])] (H ++ [.dead]) _ _ := Weak.mkrow (t := 0) 1 rfl
    have h3 := h1.trans h2
    simpa using h3
  refine ACalls.of_awp true Tryz.func78 (by decide) rfl ?_
  simp only [show Tryz.f78.ntmps = 8 from rfl, List.length_cons, List.length_nil, Nat.reduceAdd, Nat.reduceSub, List.replicate, List.cons_append, List.nil_append, agg, List.map_cons, List.map_nil]
  simp only [go_sem]
  refine slNil_sl fun b hb => ?_
  cases b
  · simp only [go_sem]
    refine aAppend_m hu (by decide) hl (fun he => ?_) (fun he => ?_)
    · simp only [go_sem]
      exact ret_ok (x := .d (.sl true [])) rfl _ _ (empty he) ⟨rfl, rfl⟩
    · simp only [go_sem]
      refine ret_ok (x := .arr H.length 0 es.length 1) rfl (.row (H.length + 1) 0) (H ++ [.dead, .row 0 1 es]) ?_ ⟨rfl, rfl⟩
      have := Weak.arrRow (N := H.length) (H := H ++ [.cells (es.flatten.map .d)]) (ts := [.arr H.length 0 es.length 1]) (t := 0) (id := H.length) (es := es) rfl (by simp) rfl hu
      simpa using this
  · have he : es = [] := Classical.byContradiction fun h => by have := hb h; cases this
    simp only [go_sem]
    exact ret_ok (x := .d (.sl true [])) rfl _ _ (empty he) ⟨rfl, rfl⟩

theorem cloneV_st (es : List (List D)) (c : Bool) (hl : es.length ≤ 4294967296) (hu : ∀ e ∈ es, e.length = 1) :
    ACalls Tryz.prog 78 [.d (.sl c es)] H (fun x H' => x = .vec H.length es.length es ∧ H' = H ++ [.tip es.length 1]) := by
  have empty : es = [] → Weak H.length [.d (.sl true [])] H [.vec H.length es.length es] (H ++ [.tip es.length 1]) := by
    intro he
    subst he
    exact Weak.mkvec (t := 0) 1 rfl (by simp)
  refine ACalls.of_awp false Tryz.func78 (by decide) rfl ?_
  simp only [show Tryz.f78.ntmps = 8 from rfl, List.length_cons, List.length_nil, Nat.reduceAdd, Nat.reduceSub, List.replicate, List.cons_append, List.nil_append, agg, List.map_cons, List.map_nil]
  simp only [go_sem]
  refine slNil_sl fun b hb => ?_
  cases b
  · simp only [go_sem]
    refine aAppend_nil rfl hu (by decide) hl ?_
    simp only [go_sem]
    exact ret_ok (x := .vec H.length es.length es) rfl _ _ Weak.refl ⟨rfl, rfl⟩
  · have he : es = [] := Classical.byContradiction fun h => by have := hb h; cases this
    simp only [go_sem]
    exact ret_ok (x := .d (.sl true [])) rfl _ _ (empty he) ⟨rfl, rfl⟩

theorem absV_nils : absV (.slice none 0 0) = .d (.sl true []) := by rfl
theorem Fd.take (x : Fd) : List.take 7 (List.map AV.d x.enc) = List.map AV.d x.enc := List.take_of_length_le (by simp [Fd.enc_len])
attribute [go_sem] absV_nils Fd.take
theorem res_fieldR {n b el : Nat} {ag isS isM : Bool} {fs : List (Nat × Nat × Bool)} {al : Option Nat} {ky : TypeId} {ki : Option IntKind} {st : Bool} {z : List D} {id pos sz i k f o q : Nat} {g : Bool} {es : List (List D)} {K : AV → List HO → Prop} (hH : H[id]? = some (.row pos sz es)) (hf : fs[f]? = some (o, q, g)) (hq : q ≠ 0)
    (h : K (.rp id pos sz i (k + o)) H) : res (oFieldAddr (some ⟨n, b, ag, fs, el, al, isS, isM, ky, ki, st, z⟩) (.rp id pos sz i k) f H) K := by
  have : oFieldAddr (some ⟨n, b, ag, fs, el, al, isS, isM, ky, ki, st, z⟩) (.rp id pos sz i k) f H = some (.rp id pos sz i (k + o), H) := by
    simp [oFieldAddr, hH, hf, hq]
  rw [this]; exact h
/-- a list, its first elements turned -/
def mix {α β : Type} (f g : α → β) (l : List α) (i : Nat) : List β := (l.take i).map f ++ (l.drop i).map g
theorem mix_len {α β : Type} (f g : α → β) (l : List α) (i : Nat) : (mix f g l i).length = l.length := by simp [mix]; omega
theorem mix_at {α β : Type} (f g : α → β) {l : List α} {i : Nat} (h : i < l.length) : (mix f g l i)[i]? = some (g l[i]) := by
  unfold mix
  rw [List.getElem?_append_right (by simp; omega)]
  simp [Nat.min_eq_left (Nat.le_of_lt h), h]
theorem mix_set {α β : Type} (f g : α → β) {l : List α} {i : Nat} (h : i < l.length) : (mix f g l i).set i (f l[i]) = mix f g l (i + 1) := by
  have h1 := List.take_succ_eq_append_getElem h
  have h2 := List.drop_eq_getElem_cons h
  have h3 : i - ((l.take i).map f).length = 0 := by simp; omega
  unfold mix
  rw [h1, h2, List.map_append, List.map_cons, List.map_cons, List.map_nil, List.set_append_right _ _ (by simp; omega), h3, List.set_cons_zero, List.append_assoc]
  rfl
theorem mix_0 {α β : Type} (f g : α → β) (l : List α) : mix f g l 0 = l.map g := by simp [mix]
theorem mix_all {α β : Type} (f g : α → β) {l : List α} {i : Nat} (h : l.length ≤ i) : mix f g l i = l.map f := by simp [mix, List.take_of_length_le h, List.drop_eq_nil_of_le h]

/-! substitution -/
mutual
def Ty.sub (names : List Str) (types : List Ty) : Ty → Ty
  | .mk k m n a f => if k = 9 ∧ 0 ≤ idx (fun s => decide (s = n)) names 0 ∧ idx (fun s => decide (s = n)) names 0 < (types.length : Int) then types.getD (idx (fun s => decide (s = n)) names 0).toNat zTy
    else .mk k m n (Ty.subL names types a) (Fd.subL names types f)
def Ty.subL (names : List Str) (types : List Ty) : List Ty → List Ty
  | [] => []
  | t :: l => t.sub names types :: Ty.subL names types l
def Fd.subL (names : List Str) (types : List Ty) : List Fd → List Fd
  | [] => []
  | .mk n t o :: l => .mk n (t.sub names types) o :: Fd.subL names types l
end
mutual
theorem Ty.sub_nil : ∀ t : Ty, t.sub [] [] = t
  | .mk k m n a f => by
    have h : ¬ (k = 9 ∧ 0 ≤ idx (fun s => decide (s = n)) ([] : List Str) 0 ∧ idx (fun s => decide (s = n)) ([] : List Str) 0 < ((([] : List Ty).length : Nat) : Int)) := fun h => absurd h.2.1 (show ¬ (0 : Int) ≤ -1 by decide)
    rw [Ty.sub, if_neg h, Ty.subL_nil a, Fd.subL_nil f]
theorem Ty.subL_nil : ∀ l : List Ty, Ty.subL [] [] l = l
  | [] => rfl
  | t :: l => by simp only [Ty.subL, Ty.sub_nil t, Ty.subL_nil l]
theorem Fd.subL_nil : ∀ l : List Fd, Fd.subL [] [] l = l
  | [] => rfl
  | .mk n t o :: l => by simp only [Fd.subL, Ty.sub_nil t, Fd.subL_nil l]
end
theorem Ty.subL_eq (ns : List Str) (ts : List Ty) : ∀ l : List Ty, Ty.subL ns ts l = l.map (Ty.sub ns ts)
  | [] => rfl
  | t :: l => by simp only [Ty.subL, List.map_cons, Ty.subL_eq ns ts l]
def Fd.sub (ns : List Str) (ts : List Ty) (f : Fd) : Fd := .mk f.name (f.type.sub ns ts) f.opt
theorem Fd.subL_eq (ns : List Str) (ts : List Ty) : ∀ l : List Fd, Fd.subL ns ts l = l.map (Fd.sub ns ts)
  | [] => rfl
  | .mk n t o :: l => by simp only [Fd.subL, List.map_cons, Fd.subL_eq ns ts l, Fd.sub, Fd.name, Fd.type, Fd.opt]

theorem idx_st (l : List Str) (s : Str) (hl : l.length ≤ 1048576) : Fun Tryz.prog 47 [.d (.sl false (l.map sE)), .d (.str s)] (.d (.int .i64 (idx (fun x => decide (x = s)) l 0))) := by
  refine ACalls.of_awp false Tryz.func47 (by decide) rfl ?_
  simp only [show Tryz.f47.ntmps = 19 from rfl, List.length_cons, List.length_nil, Nat.reduceAdd, Nat.reduceSub, List.replicate, List.cons_append, List.nil_append, agg, List.map_cons, List.map_nil]
  simp only [go_sem]
  refine awp_loop (ι := Nat) (fun i => [.d (.sl false (l.map sE)), .d (.str s), .any, .any, .any, .any, .any, .d (.int .i64 l.length), .d (.int .i64 i), .any, .any, .any, .any, .any, .any, .any, .any, .any, .any]) (fun _ => []) (fun i => l.length - i) (fun i => i ≤ l.length ∧ idx (fun x => decide (x = s)) l 0 = idx (fun x => decide (x = s)) (l.drop i) i) 0 ⟨by omega, rfl⟩ (Weak.les (by repeat (first | exact lesA_nil | refine lesA_cons (AV.le_any _) ?_ | refine lesA_cons (AV.le_refl _) ?_ | refine lesA_cons (AV.le_pure rfl) ?_))) ?_
  rintro i ⟨hi, ha⟩
  simp only [go_sem]
  refine cnd_lt (fun hlt => ?_) (fun hge => ?_)
  · have hd := List.drop_eq_getElem_cons hlt
    rw [hd, idx] at ha
    simp only [go_sem]
    refine res_index rfl rfl (by omega) (map_at sE hlt) (sE_len _) ?_
    simp only [go_sem, sE]
    by_cases hp : s = l[i]
    · have hp' := eq_true hp
      simp only [go_sem, hp']
      rw [ha]; exact ret_fun rfl (by simp [go_sem, hp.symm]) rfl
    · have hp' : ¬ l[i] = s := fun e => hp e.symm
      simp only [go_sem, hp, hp', wrap_succ (i := i) (by omega)]
      exact ⟨i + 1, by show _ - (i + 1) < _ - i; omega, ⟨hlt, by rw [ha]; simp [hp']⟩, Weak.les (by repeat (first | exact lesA_nil | refine lesA_cons (AV.le_any _) ?_ | refine lesA_cons (AV.le_refl _) ?_ | refine lesA_cons (AV.le_pure rfl) ?_))⟩
  · simp only [go_sem]
    have hnil : l.drop i = [] := List.drop_eq_nil_of_le hge
    rw [ha, hnil]; exact ret_fun rfl (by simp [go_sem, idx]) rfl

theorem con_st (l : List Str) (s : Str) (hl : l.length ≤ 1048576) : Fun Tryz.prog 21 [.d (.sl false (l.map sE)), .d (.str s)] (.d (.bool (l.contains s))) := by
  refine ACalls.of_awp false Tryz.func21 (by decide) rfl ?_
  simp only [show Tryz.f21.ntmps = 9 from rfl, List.length_cons, List.length_nil, Nat.reduceAdd, Nat.reduceSub, List.replicate, List.cons_append, List.nil_append, agg, List.map_cons, List.map_nil]
  simp only [go_sem]
  refine (idx_st l s hl).call (by simp only [go_sem]) rfl ?_
  have hc : ∀ (l : List Str) (i : Nat), (0 ≤ idx (fun x => decide (x = s)) l i) ↔ l.contains s = true := by
    intro l
    induction l with
    | nil => intro i; simp [idx]
    | cons x l ih =>
      intro i
      rw [has_cons, idx]
      by_cases h : x = s
      · simp [h]
      · simp only [h, decide_false, Bool.false_eq_true, if_false, Bool.false_or]; exact ih (i + 1)
  have := hc l 0
  cases h : l.contains s
  · have h0 : ¬ 0 ≤ idx (fun x => decide (x = s)) l 0 := fun e => by rw [this.1 e] at h; cases h
    simp only [go_sem, h0]; exact ret_fun rfl (by simp [go_sem]) rfl
  · have h0 := this.2 h
    simp only [go_sem, h0]; exact ret_fun rfl (by simp [go_sem]) rfl

set_option maxHeartbeats 1000000 in
theorem subst_ok (names : List Str) (types : List Ty) (hn : names.length ≤ 1048576) (ht : types.length ≤ 1048576)
    (hcopy : ∀ u ∈ types, Fun Tryz.prog 196 [agg u.enc, .d (.sl false []), .d (.sl false [])] (agg u.enc)) (t : Ty) (hg : t.good) :
    Fun Tryz.prog 196 [agg t.enc, .d (.sl false (names.map sE)), .d (.sl false (types.map Ty.enc))] (agg (t.sub names types).enc) := by
  revert hg
  refine ty_induct (M := fun t => t.good → Fun Tryz.prog 196 [agg t.enc, .d (.sl false (names.map sE)), .d (.sl false (types.map Ty.enc))] (agg (t.sub names types).enc)) (fun t ih hg => ?_) t
  have hl := hg.len
  obtain ⟨k, mo, n, ar, fs⟩ := t
  simp only [Ty.args, Ty.fields] at hl
  have iha : ∀ p ∈ ar, Fun Tryz.prog 196 [agg p.enc, .d (.sl false (names.map sE)), .d (.sl false (types.map Ty.enc))] (agg (p.sub names types).enc) := fun p hp => ih p (Ty.args_parts hp) (hg.part (Ty.args_parts hp))
  have ihf : ∀ f ∈ fs, Fun Tryz.prog 196 [agg f.type.enc, .d (.sl false (names.map sE)), .d (.sl false (types.map Ty.enc))] (agg (f.type.sub names types).enc) := fun f hf => ih _ (Ty.field_parts hf) (hg.part (Ty.field_parts hf))
  clear ih hg
  have hv1 : k = 9 ∧ 0 ≤ idx (fun s => decide (s = n)) names 0 ∧ idx (fun s => decide (s = n)) names 0 < (types.length : Int) → (Ty.mk k mo n ar fs).sub names types = types.getD (idx (fun s => decide (s = n)) names 0).toNat zTy := fun h => by rw [Ty.sub, if_pos h]
  have hv2 : ¬ (k = 9 ∧ 0 ≤ idx (fun s => decide (s = n)) names 0 ∧ idx (fun s => decide (s = n)) names 0 < (types.length : Int)) → (Ty.mk k mo n ar fs).sub names types = .mk k mo n (ar.map (Ty.sub names types)) (fs.map (Fd.sub names types)) := fun h => by rw [Ty.sub, if_neg h, Ty.subL_eq, Fd.subL_eq]
  generalize (Ty.mk k mo n ar fs).sub names types = v at *
  generalize hj : idx (fun s => decide (s = n)) names 0 = j at *
  refine ACalls.of_awp false Tryz.func196 (by decide) rfl ?_
  simp only [show Tryz.f196.ntmps = 79 from rfl, List.length_cons, List.length_nil, Nat.reduceAdd, Nat.reduceSub, List.replicate, List.cons_append, List.nil_append, agg, List.map_cons, List.map_nil]
  simp only [Ty.enc_eq (Ty.mk k mo n ar fs), Ty.kind, Ty.module, Ty.name, Ty.args, Ty.fields, List.map_cons, List.map_nil]
  refine (fun (key : (fun (c : Code) (Q : AQ) => v = .mk k mo n (ar.map (Ty.sub names types)) (fs.map (Fd.sub names types)) → ∀ ts, lesA ts [.any, .d (.sl false (names.map sE)), .d (.sl false (types.map Ty.enc)), .ptr 0 0, .any, .any, .ptr 1 0, .any, .any, .any, .any, .any, .any, .any, .any, .any, .any, .any, .any, .any, .any, .any, .any, .any, .any, .any, .any, .any, .any, .any, .any, .any, .any, .any, .any, .any, .any, .any, .any, .any, .any, .any, .any, .row 3 0, .d (.int .i64 ar.length), .d (.int .i64 0), .any, .any, .any, .any, .any, .any, .any, .any, .any, .any, .any, .any, .any, .any, .any, .any, .any, .any, .any, .any, .any, .any, .any, .any, .any, .any, .any, .any, .any, .any, .any, .any, .any] → awp Tryz.prog false 0 c Q ts [HO.cells [.d (.int .i64 k), .d (.str mo), .d (.str n), .row 3 0, .row 5 0], HO.cells [.d (.int .i64 0), .d (.str []), .d (.str []), .d (.sl true []), .d (.sl true [])], .dead, .row 0 5 (ar.map Ty.enc), .dead, .row 0 7 (fs.map Fd.enc)]) ?c ?Q) => ?main) ?h
  case main =>
    simp only [go_sem]
    refine (idx_st names n hn).call (by simp only [go_sem]) rfl ?_
    rw [hj]
    by_cases h1 : k = 9
    · have e1 := eq_true h1
      by_cases h2 : 0 ≤ j
      · by_cases h3 : j < (types.length : Int)
        · have hjl : j.toNat < types.length := by omega
          simp only [go_sem, e1, h2, h3]
          refine res_index rfl rfl h2 (x := types[j.toNat].enc) (by rw [List.getElem?_map, List.getElem?_eq_getElem hjl]; rfl) (Ty.enc_len _) ?_
          simp only [go_sem]
          refine (hcopy _ (List.getElem_mem hjl)).call (by simp only [go_sem, agg]) (by simp [go_sem, agg]) ?_
          simp only [go_sem, agg]
          refine res_storeAll rfl (by simp [AV.one]) (by simp [Ty.enc_len]) rfl ?_
          simp only [go_sem]
          rw [hv1 ⟨h1, h2, h3⟩, List.getD_eq_getElem?_getD, List.getElem?_eq_getElem hjl]
          rw [show Tryz.f196.results.toList = [.cell 6 28] from rfl]; refine ret_fun (by simp only [ares, aresL, ares1_cell, ares1_tmp, go_sem]; rfl) ?_ (by simp [go_sem, agg])
          simp [go_sem, agg]
        · simp only [go_sem, e1, h2, h3]
          refine awp_draw [false, false, true, false, false, true, false, true, false, true] [(3, 0), (4, 0), (6, 1)] mixed (by kernel_rfl) ?_
          simp only [go_sem]
          refine callX_of (clone_ty _ _ (by simp; omega) (Ty.encs_len _)) ?_
          simp only [go_sem]
          refine callX_of (clone_fd _ _ (by simp; omega) (Fd.encs_len _)) ?_
          simp only [go_sem]
          refine res_store1 rfl rfl (by simp) ?_
          simp only [go_sem]
          refine res_store1 rfl rfl (by simp) ?_
          simp only [go_sem]
          refine ⟨?_, ?_⟩
          · simp only [exOk, List.getElem?_cons_succ, List.getElem?_cons_zero, and_true]
            refine ⟨stepOk_plain ?_, stepOk_plain ?_, stepOk_plain ?_⟩ <;> simp only [go_sem] <;> exact ⟨rfl, rfl⟩
          · simp only [go_sem]
            refine res_lenR (es := ar.map Ty.enc) rfl ?_
            simp only [go_sem]
            refine key (hv2 (fun h => h3 h.2.2)) _ ?_
            exact (by repeat (first | exact lesA_nil | refine lesA_cons (AV.le_any _) ?_ | refine lesA_cons (AV.le_refl _) ?_ | refine lesA_cons (AV.le_pure rfl) ?_))
      · simp only [go_sem, e1, h2]
        refine awp_draw [false, false, true, false, false, true, false, true, false, true] [(3, 0), (4, 0), (6, 1)] mixed (by kernel_rfl) ?_
        simp only [go_sem]
        refine callX_of (clone_ty _ _ (by simp; omega) (Ty.encs_len _)) ?_
        simp only [go_sem]
        refine callX_of (clone_fd _ _ (by simp; omega) (Fd.encs_len _)) ?_
        simp only [go_sem]
        refine res_store1 rfl rfl (by simp) ?_
        simp only [go_sem]
        refine res_store1 rfl rfl (by simp) ?_
        simp only [go_sem]
        refine ⟨?_, ?_⟩
        · simp only [exOk, List.getElem?_cons_succ, List.getElem?_cons_zero, and_true]
          refine ⟨stepOk_plain ?_, stepOk_plain ?_, stepOk_plain ?_⟩ <;> simp only [go_sem] <;> exact ⟨rfl, rfl⟩
        · simp only [go_sem]
          refine res_lenR (es := ar.map Ty.enc) rfl ?_
          simp only [go_sem]
          refine key (hv2 (fun h => h2 h.2.1)) _ ?_
          exact (by repeat (first | exact lesA_nil | refine lesA_cons (AV.le_any _) ?_ | refine lesA_cons (AV.le_refl _) ?_ | refine lesA_cons (AV.le_pure rfl) ?_))
    · simp only [go_sem, h1]
      refine awp_draw [false, false, true, false, false, true, false, true, false, true] [(3, 0), (4, 0), (6, 1)] mixed (by kernel_rfl) ?_
      simp only [go_sem]
      refine callX_of (clone_ty _ _ (by simp; omega) (Ty.encs_len _)) ?_
      simp only [go_sem]
      refine callX_of (clone_fd _ _ (by simp; omega) (Fd.encs_len _)) ?_
      simp only [go_sem]
      refine res_store1 rfl rfl (by simp) ?_
      simp only [go_sem]
      refine res_store1 rfl rfl (by simp) ?_
      simp only [go_sem]
      refine ⟨?_, ?_⟩
      · simp only [exOk, List.getElem?_cons_succ, List.getElem?_cons_zero, and_true]
        refine ⟨stepOk_plain ?_, stepOk_plain ?_, stepOk_plain ?_⟩ <;> simp only [go_sem] <;> exact ⟨rfl, rfl⟩
      · simp only [go_sem]
        refine res_lenR (es := ar.map Ty.enc) rfl ?_
        simp only [go_sem]
        refine key (hv2 (fun h => h1 h.1)) _ ?_
        exact (by repeat (first | exact lesA_nil | refine lesA_cons (AV.le_any _) ?_ | refine lesA_cons (AV.le_refl _) ?_ | refine lesA_cons (AV.le_pure rfl) ?_))
  case h =>
    intro hv ts hts
    rw [hv]
    clear hv1 hv2 hj
    obtain ⟨A, hA⟩ : ∃ A : Nat → List (List D), A = mix (fun p => (Ty.sub names types p).enc) Ty.enc ar := ⟨_, rfl⟩
    obtain ⟨B, hB⟩ : ∃ B : Nat → List (List D), B = mix (fun p => (Fd.sub names types p).enc) Fd.enc fs := ⟨_, rfl⟩
    have hA0 : A 0 = ar.map Ty.enc := by rw [hA, mix_0]
    have hB0 : B 0 = fs.map Fd.enc := by rw [hB, mix_0]
    have hAl : ∀ i, (A i).length = ar.length := fun i => by rw [hA, mix_len]
    have hBl : ∀ i, (B i).length = fs.length := fun i => by rw [hB, mix_len]
    have hAe : ∀ i, ∀ e ∈ A i, e.length = 5 := fun i e he => by
      rw [hA] at he; simp only [mix, List.mem_append, List.mem_map] at he
      rcases he with ⟨p, _, rfl⟩ | ⟨p, _, rfl⟩ <;> exact Ty.enc_len _
    refine awp_loop (ι := Nat) (fun i => [.any, .d (.sl false (names.map sE)), .d (.sl false (types.map Ty.enc)), .ptr 0 0, .any, .any, .ptr 1 0, .any, .any, .any, .any, .any, .any, .any, .any, .any, .any, .any, .any, .any, .any, .any, .any, .any, .any, .any, .any, .any, .any, .any, .any, .any, .any, .any, .any, .any, .any, .any, .any, .any, .any, .any, .any, .row 3 0, .d (.int .i64 ar.length), .d (.int .i64 i), .any, .any, .any, .any, .any, .any, .any, .any, .any, .any, .any, .any, .any, .any, .any, .any, .any, .any, .any, .any, .any, .any, .any, .any, .any, .any, .any, .any, .any, .any, .any, .any, .any])
      (fun i => [HO.cells [.d (.int .i64 k), .d (.str mo), .d (.str n), .row 3 0, .row 5 0], HO.cells [.d (.int .i64 0), .d (.str []), .d (.str []), .d (.sl true []), .d (.sl true [])], .dead, .row 0 5 (A i), .dead, .row 0 7 (fs.map Fd.enc)])
      (fun i => ar.length - i) (fun i => i ≤ ar.length) 0 (by omega) (by rw [hA0]; exact Weak.les hts) ?_
    intro i hi
    simp only [go_sem]
    refine cnd_lt (fun hlt => ?_) (fun hge => ?_)
    · have hat : (A i)[i]? = some ar[i].enc := by rw [hA]; exact mix_at _ _ hlt
      have hse : (A i).set i (Ty.sub names types ar[i]).enc = A (i + 1) := by rw [hA]; exact mix_set _ _ hlt
      simp only [go_sem]
      refine res_indexR (es := A i) rfl rfl rfl (by omega) (by rw [hAl]; omega) ?_
      simp only [go_sem, Int.toNat_natCast]
      refine res_loadR (es := A i) rfl hat (by simp [Ty.enc_len]) rfl ?_
      simp only [go_sem]
      refine res_storeAll rfl (by simp [AV.one]) (by simp [Ty.enc_len]) rfl ?_
      simp only [go_sem]
      refine awp_draw0 [false, false, false, false, false, false, false, false, true] mixed (by kernel_rfl) ?_
      simp only [go_sem]
      refine (iha _ (List.getElem_mem hlt)).callX (by simp only [go_sem, agg]) (by simp [go_sem, agg]) ?_
      simp only [go_sem, agg]
      refine res_indexR (es := A i) rfl rfl rfl (by omega) (by rw [hAl]; omega) ?_
      simp only [go_sem, Int.toNat_natCast]
      refine res_storeR (es := A i) (ds := (Ty.sub names types ar[i]).enc) rfl (by simp [AV.cells?, AV.one]) (toDs_map _) rfl (Ty.enc_len _) (by rw [hAl]; omega) (hAe i _ (List.getElem_mem _)) ?_
      simp only [go_sem, wrap_succ (i := i) (by omega), hse]
      exact next_ld (i + 1) 6 (by omega) hlt rfl (by repeat (first | exact lesA_nil | refine lesA_cons (AV.le_any _) ?_ | refine lesA_cons (AV.le_refl _) ?_ | refine lesA_cons (AV.le_pure rfl) ?_)) (Nat.zero_le _) (by simp) (by simp [go_sem]) (by simp [HO.inS, go_sem])
    · have hAn : A i = ar.map (fun p => (Ty.sub names types p).enc) := by rw [hA]; exact mix_all _ _ hge
      simp only [go_sem, hAn]
      refine res_lenR (es := fs.map Fd.enc) rfl ?_
      simp only [go_sem]
      refine awp_loop (ι := Nat) (fun i => [.any, .d (.sl false (names.map sE)), .d (.sl false (types.map Ty.enc)), .ptr 0 0, .any, .any, .ptr 1 0, .any, .any, .any, .any, .any, .any, .any, .any, .any, .any, .any, .any, .any, .any, .any, .any, .any, .any, .any, .any, .any, .any, .any, .any, .any, .any, .any, .any, .any, .any, .any, .any, .any, .any, .any, .any, .any, .any, .any, .any, .any, .any, .any, .any, .any, .any, .any, .any, .any, .any, .any, .any, .any, .row 5 0, .d (.int .i64 fs.length), .d (.int .i64 i), .any, .any, .any, .any, .any, .any, .any, .any, .any, .any, .any, .any, .any, .any, .any, .any])
        (fun i => [HO.cells [.d (.int .i64 k), .d (.str mo), .d (.str n), .row 3 0, .row 5 0], HO.cells [.d (.int .i64 0), .d (.str []), .d (.str []), .d (.sl true []), .d (.sl true [])], .dead, .row 0 5 (ar.map (fun p => (Ty.sub names types p).enc)), .dead, .row 0 7 (B i)])
        (fun i => fs.length - i) (fun i => i ≤ fs.length) 0 (by omega) (by rw [hB0]; exact Weak.les (by repeat (first | exact lesA_nil | refine lesA_cons (AV.le_any _) ?_ | refine lesA_cons (AV.le_refl _) ?_ | refine lesA_cons (AV.le_pure rfl) ?_))) ?_
      intro i hi
      simp only [go_sem]
      refine cnd_lt (fun hlt => ?_) (fun hge => ?_)
      · have hat : (B i)[i]? = some fs[i].enc := by rw [hB]; exact mix_at _ _ hlt
        have hse : (B i).set i (Fd.sub names types fs[i]).enc = B (i + 1) := by rw [hB]; exact mix_set _ _ hlt
        simp only [go_sem]
        refine res_indexR (es := B i) rfl rfl rfl (by omega) (by rw [hBl]; omega) ?_
        simp only [go_sem, Int.toNat_natCast]
        refine res_loadR (es := B i) rfl hat (by simp [Fd.enc_len]) rfl ?_
        simp only [go_sem, List.take_of_length_le (Nat.le_of_eq (Fd.enc_len _))]
        have hsub : (Fd.sub names types fs[i]).enc = .str fs[i].name :: ((Ty.sub names types fs[i].type).enc ++ [.bool fs[i].opt]) := by rw [Fd.enc_eq]; rfl
        refine res_storeAll rfl (by simp [AV.one]) (by simp [Fd.enc_len]) rfl ?_
        simp only [go_sem, Fd.enc_eq fs[i], List.map_append]
        refine awp_draw0 [false, false, false, false, false, false, false, false, false, false, true] mixed (by kernel_rfl) ?_
        simp only [go_sem]
        refine (ihf _ (List.getElem_mem hlt)).callX (by simp only [go_sem, agg]) (by simp [go_sem, agg]) ?_
        simp only [go_sem, agg]
        refine res_indexR (es := B i) rfl rfl rfl (by omega) (by rw [hBl]; omega) ?_
        simp only [go_sem, Int.toNat_natCast]
        refine res_fieldR (es := B i) rfl rfl (by decide) ?_
        simp only [go_sem]
        refine res_storeRk (es := B i) (e := fs[i].enc) (ds := (Ty.sub names types fs[i].type).enc) rfl (by simp [AV.cells?, AV.one]) (toDs_map _) hat (by simp) (by simp [Ty.enc_len]) ?_
        have hnew : fs[i].enc.take 1 ++ (Ty.sub names types fs[i].type).enc ++ fs[i].enc.drop (1 + (Ty.sub names types fs[i].type).enc.length) = (Fd.sub names types fs[i]).enc := by
          rw [hsub, Ty.enc_len, Fd.enc_eq fs[i]]
          simp only [List.take_succ_cons, List.take_zero, Nat.reduceAdd, List.drop_succ_cons, Ty.enc_drop, List.cons_append, List.nil_append]
        simp only [hnew, hse]
        simp only [go_sem, wrap_succ (i := i) (by omega)]
        exact next_ld (i + 1) 6 (by omega) hlt rfl (by repeat (first | exact lesA_nil | refine lesA_cons (AV.le_any _) ?_ | refine lesA_cons (AV.le_refl _) ?_ | refine lesA_cons (AV.le_pure rfl) ?_)) (Nat.zero_le _) (by simp) (by simp [go_sem]) (by simp [HO.inS, go_sem])
      · have hBn : B i = fs.map (fun p => (Fd.sub names types p).enc) := by rw [hB]; exact mix_all _ _ hge
        simp only [go_sem, hBn]
        refine res_storeAll rfl rfl rfl rfl ?_
        simp only [go_sem]
        rw [show Tryz.f196.results.toList = [.cell 6 28] from rfl]
        refine ret_ok (by simp only [ares, aresL, ares1_cell, ares1_tmp, go_sem]; rfl) _ [] ((Weak.frzR (id := 3) (n := 0) (sz := 5) rfl (by intro e he; obtain ⟨p, _, rfl⟩ := List.mem_map.1 he; exact Ty.enc_len _)).trans ((Weak.frzR (id := 5) (n := 0) (sz := 7) rfl (by intro e he; obtain ⟨p, _, rfl⟩ := List.mem_map.1 he; exact Fd.enc_len _)).trans (Weak.pures ?_ ?_))) rfl
        · have n1 : D.normE (ar.map fun p => (Ty.sub names types p).enc) = ar.map fun p => (Ty.sub names types p).enc := normE_map (fun p => Ty.enc_norm _) _
          have n2 : D.normE (fs.map fun p => (Fd.sub names types p).enc) = fs.map fun p => (Fd.sub names types p).enc := normE_map (fun p => Fd.enc_norm _) _
          simp [AV.frzRs, AV.frzR, agg, go_sem, n1, n2, Ty.enc_eq (.mk k mo n (ar.map (Ty.sub names types)) (fs.map (Fd.sub names types))), Ty.kind, Ty.module, Ty.name, Ty.args, Ty.fields, Function.comp_def]
        · simp [go_sem, agg]

theorem copy_ok (t : Ty) (hg : t.good) : Fun Tryz.prog 196 [agg t.enc, .d (.sl false []), .d (.sl false [])] (agg t.enc) := by
  have := subst_ok [] [] (by simp) (by simp) (fun u hu => by simp at hu) t hg
  rw [Ty.sub_nil] at this
  exact this
theorem subst_all (names : List Str) (types : List Ty) (hn : names.length ≤ 1048576) (ht : types.length ≤ 1048576) (hgs : ∀ u ∈ types, u.good) (t : Ty) (hg : t.good) :
    Fun Tryz.prog 196 [agg t.enc, .d (.sl false (names.map sE)), .d (.sl false (types.map Ty.enc))] (agg (t.sub names types).enc) :=
  subst_ok names types hn ht (fun u hu => copy_ok u (hgs u hu)) t hg

end Go.Proofs.YthhmioodienlmaaGreatDoor

/- Contracts of the program's functions on environments (chapter 7): copies of entries, the end of a name, types. -/
namespace Go.Proofs.YthhmioodienlmaaGreatDoor
open Go
set_option maxRecDepth 20000
set_option pp.deepTerms false
set_option pp.deepTerms.threshold 6
variable {P : Program} {H : List HO}

theorem copyType_ok (t : Ty) (hg : t.good) : Fun Tryz.prog 145 [agg t.enc] (agg t.enc) := by
  refine ACalls.of_awp false Tryz.func145 (by decide) rfl ?_
  simp only [show Tryz.f145.ntmps = 5 from rfl, List.length_cons, List.length_nil, Nat.reduceAdd, Nat.reduceSub, List.replicate, List.cons_append, List.nil_append, agg, List.map_cons, List.map_nil]
  simp only [go_sem]
  refine (copy_ok t hg).call (by simp only [go_sem, agg]) (by simp [go_sem, agg]) ?_
  simp only [go_sem, agg]
  refine res_storeAll rfl (by simp [AV.one]) (by simp [Ty.enc_len]) rfl ?_
  simp only [go_sem]
  rw [show Tryz.f145.results.toList = [.cell 2 28] from rfl]
  refine ret_fun' (by simp only [ares, aresL, ares1_cell, ares1_tmp, go_sem]; rfl) ?_ (by simp [go_sem, agg])
  simp [go_sem, agg]

theorem copyParams_ok (l : List Pa) (hl : l.length ≤ 1048576) (hg : ∀ p ∈ l, p.bound.good) : Fun Tryz.prog 144 [.d (.sl false (l.map Pa.enc))] (.d (.sl false (l.map Pa.enc))) := by
  have hlen : ∀ e ∈ l.map Pa.enc, e.length = 7 := by intro e he; obtain ⟨p, _, rfl⟩ := List.mem_map.1 he; exact Pa.enc_len _
  refine ACalls.of_awp false Tryz.func144 (by decide) rfl ?_
  simp only [show Tryz.f144.ntmps = 23 from rfl, List.length_cons, List.length_nil, Nat.reduceAdd, Nat.reduceSub, List.replicate, List.cons_append, List.nil_append, agg, List.map_cons, List.map_nil]
  simp only [go_sem]
  refine call_of (clone_pa _ _ (by simp; omega) hlen) ?_
  simp only [go_sem]
  refine res_lenR (es := l.map Pa.enc) rfl ?_
  simp only [go_sem]
  refine awp_loop (ι := Nat) (fun i => [.row 1 0, .any, .any, .any, .any, .any, .any, .d (.int .i64 l.length), .d (.int .i64 i), .any, .any, .any, .any, .any, .any, .any, .any, .any, .any, .any, .any, .any, .any]) (fun _ => [.dead, .row 0 7 (l.map Pa.enc)]) (fun i => l.length - i) (fun i => i ≤ l.length) 0 (by omega) (Weak.les (by repeat (first | exact lesA_nil | refine lesA_cons (AV.le_any _) ?_ | refine lesA_cons (AV.le_refl _) ?_ | refine lesA_cons (AV.le_pure rfl) ?_))) ?_
  intro i hi
  simp only [go_sem]
  refine cnd_lt (fun hlt => ?_) (fun hge => ?_)
  · have hat : (l.map Pa.enc)[i]? = some l[i].enc := by simp [hlt]
    simp only [go_sem]
    refine res_indexR (es := l.map Pa.enc) rfl rfl rfl (by omega) (by simp; omega) ?_
    simp only [go_sem, Int.toNat_natCast]
    refine res_fieldR (es := l.map Pa.enc) rfl rfl (by decide) ?_
    simp only [go_sem]
    refine res_loadR (es := l.map Pa.enc) rfl hat (by simp [Pa.enc_len]) rfl ?_
    simp only [go_sem, Pa.enc_eq l[i]]
    refine (copyType_ok _ (hg _ (List.getElem_mem hlt))).call (by simp only [go_sem, agg]) (by simp [go_sem, agg]) ?_
    simp only [go_sem, agg]
    refine res_indexR (es := l.map Pa.enc) rfl rfl rfl (by omega) (by simp; omega) ?_
    simp only [go_sem, Int.toNat_natCast]
    refine res_fieldR (es := l.map Pa.enc) rfl rfl (by decide) ?_
    simp only [go_sem]
    refine res_storeRk (es := l.map Pa.enc) (e := l[i].enc) (ds := l[i].bound.enc) rfl (by simp [AV.cells?, AV.one]) (toDs_map _) hat (by simp) (by simp [Ty.enc_len]) ?_
    have hnew : (l.map Pa.enc).set i (l[i].enc.take 2 ++ l[i].bound.enc ++ l[i].enc.drop (2 + l[i].bound.enc.length)) = l.map Pa.enc := by
      have : l[i].enc.take 2 ++ l[i].bound.enc ++ l[i].enc.drop (2 + l[i].bound.enc.length) = l[i].enc := by
        rw [Ty.enc_len, Pa.enc_eq]
        simp [Ty.enc_len]
      rw [this]
      exact list_set_same hat
    simp only [hnew]
    simp only [go_sem, wrap_succ (i := i) (by omega)]
    exact ⟨i + 1, by show _ - (i + 1) < _ - i; omega, hlt, Weak.les (by repeat (first | exact lesA_nil | refine lesA_cons (AV.le_any _) ?_ | refine lesA_cons (AV.le_refl _) ?_ | refine lesA_cons (AV.le_pure rfl) ?_))⟩
  · simp only [go_sem]
    refine ret_ok (x := .row 1 0) rfl _ [] ((Weak.freezeRow (t := 0) rfl rfl hlen).trans (Weak.pures ?_ ?_)) rfl
    · simp only [go_sem]
    · rfl

theorem copyEntry_ok (x : TE) (hl : x.params.length ≤ 1048576) (hg : ∀ p ∈ x.params, p.bound.good) (h1 : x.lower.good) (h2 : x.upper.good) : Fun Tryz.prog 87 [agg x.enc] (agg x.enc) := by
  refine ACalls.of_awp false Tryz.func87 (by decide) rfl ?_
  simp only [show Tryz.f87.ntmps = 15 from rfl, List.length_cons, List.length_nil, Nat.reduceAdd, Nat.reduceSub, List.replicate, List.cons_append, List.nil_append, agg, List.map_cons, List.map_nil]
  simp only [TE.enc_eq x, List.map_cons, List.map_append]
  simp only [go_sem]
  refine awp_draw0 [false, false, false, false, false, false, false, false, false, false, false, false, true] mixed (by kernel_rfl) ?_
  simp only [go_sem]
  refine (copyParams_ok x.params hl hg).callX (by simp only [go_sem]) rfl ?_
  simp only [go_sem]
  refine (copyType_ok _ h1).callX (by simp only [go_sem, agg]) (by simp [go_sem, agg]) ?_
  simp only [go_sem, agg]
  refine (copyType_ok _ h2).callX (by simp only [go_sem, agg]) (by simp [go_sem, agg]) ?_
  simp only [go_sem, agg]
  refine res_of (x := .agg (List.map AV.d x.enc)) (by rw [TE.enc_eq x]; simp [oBuild, aparts, fillA, AV.cells?, AV.one, splice, Ty.enc_len, aev]; rfl) ?_
  simp only [go_sem]
  refine res_storeAll rfl (by simp [AV.one]) (by simp [TE.enc_len]) rfl ?_
  simp only [go_sem]
  rw [show Tryz.f87.results.toList = [.cell 2 51] from rfl]; refine ret_fun (by simp only [ares, aresL, ares1_cell, ares1_tmp, go_sem]; rfl) ?_ (by simp [go_sem, agg])
  simp [go_sem, agg, TE.enc_eq]

@[go_sem] theorem oBin_ptr_eq {r : List D} : oBin .ptr .eql (.d (.ptr r)) (absV (.pointer none)) H = some (.d (.bool false), H) := by rfl
@[go_sem] theorem oBin_ptr_ne {r : List D} : oBin .ptr .neq (.d (.ptr r)) (absV (.pointer none)) H = some (.d (.bool true), H) := by rfl
@[go_sem] theorem oBin_nil_eq : oBin .ptr .eql (.d (.con (.pointer none))) (absV (.pointer none)) H = some (.d (.bool true), H) := by rfl
@[go_sem] theorem oBin_nil_ne : oBin .ptr .neq (.d (.con (.pointer none))) (absV (.pointer none)) H = some (.d (.bool false), H) := by rfl

@[go_sem] theorem oNilCheck_ptr {r : List D} : oNilCheck (.d (.ptr r)) H = some (.d (.ptr r)) := by rfl

/-! ### the end of a name -/
def endN : Nat → Env → Str → Str → Ent × Int
  | 0, _, _, _ => (zEnt, 14)
  | n + 1, env, m, s =>
    if (lookup env m s).2 = false then (zEnt, 6) else
    match (lookup env m s).1.alias' with
    | none => ((lookup env m s).1, 0)
    | some a => endN n env a.module a.target
def endE (env : Env) (m s : Str) : Ent × Int := endN 65 env m s

theorem env_end (env : Env) (m s : Str) (hg : env.good) : Fun Tryz.prog 86 [.d (.sl false (env.map If.enc)), .d (.str m), .d (.str s)] (.tup [agg (endE env m s).1.enc, .d (.int .i64 (endE env m s).2)]) := by
  refine ACalls.of_awp false Tryz.func86 (by decide) rfl ?_
  simp only [show Tryz.f86.ntmps = 40 from rfl, List.length_cons, List.length_nil, Nat.reduceAdd, Nat.reduceSub, List.replicate, List.cons_append, List.nil_append, agg, List.map_cons, List.map_nil]
  simp only [go_sem]
  refine awp_loop (ι := Nat × Str × Str) (fun x => [.d (.sl false (env.map If.enc)), .d (.str x.2.1), .d (.str x.2.2), .any, .any, .any, .ptr 0 0, .any, .any, .any, .d (.int .i64 x.1), .any, .any, .any, .any, .any, .any, .any, .any, .any, .any, .any, .any, .any, .any, .any, .any, .any, .any, .any, .any, .any, .any, .any, .any, .any, .any, .any, .any, .any]) (fun _ => _) (fun x => 65 - x.1)
    (fun x => x.1 ≤ 65 ∧ endE env m s = endN (65 - x.1) env x.2.1 x.2.2) (0, m, s) ⟨by omega, rfl⟩ (Weak.les (by repeat (first | exact lesA_nil | refine lesA_cons (AV.le_any _) ?_ | refine lesA_cons (AV.le_refl _) ?_ | refine lesA_cons (AV.le_pure rfl) ?_))) ?_
  rintro ⟨i, m', s'⟩ ⟨hi, ha⟩
  simp only at hi ha
  simp only [go_sem]
  by_cases h64 : (i : Int) < 65
  · rw [show 65 - i = (64 - i) + 1 by omega, endN] at ha
    simp only [go_sem, h64]
    refine (env_lookup env m' s' hg).call (by simp only [go_sem]) (by simp [go_sem, agg]) ?_
    simp only [go_sem, agg]
    refine res_storeAll rfl (by simp [AV.one]) (by simp [Ent.enc_len]) rfl ?_
    simp only [go_sem]
    cases hk : (lookup env m' s').2
    · rw [hk, if_pos rfl] at ha
      simp only [go_sem]
      refine res_storeAll rfl rfl rfl (by rfl) ?_
      simp only [go_sem]
      rw [ha]
      rw [show Tryz.f86.results.toList = [.cell 6 147, .tmp 7] from rfl]; refine ret_fun (by simp only [ares, aresL, ares1_cell, ares1_tmp, go_sem]; rfl) ?_ (by simp [go_sem, agg])
      simp [go_sem, agg, Ent.enc, zEnt, pt]
    · rw [hk, if_neg (by simp)] at ha
      generalize he : (lookup env m' s').1 = e at *
      obtain ⟨em, en, et, ev, ea⟩ := e
      simp only [go_sem]
      cases ea with
      | none =>
        simp only at ha
        simp only [go_sem, Ent.enc, pt]
        refine res_storeAll rfl (by simp [AV.one]) (by rfl) rfl ?_
        simp only [go_sem]
        rw [ha]
        rw [show Tryz.f86.results.toList = [.cell 6 147, .tmp 7] from rfl]; refine ret_fun (by simp only [ares, aresL, ares1_cell, ares1_tmp, go_sem]; rfl) ?_ (by simp [go_sem, agg])
        cases et <;> cases ev <;> simp [go_sem, agg, Ent.enc, zEnt, pt]
      | some a =>
        simp only at ha
        simp only [go_sem, Ent.enc, pt]
        refine awp_draw0 [false, false, false, false, false, false, false, false, false, false, false, false] mixed (by kernel_rfl) ?_
        simp only [go_sem]
        rw [show a.enc = [.str a.name, .str a.module, .str a.target] from rfl]
        simp only [go_sem, wrap_succ (i := i) (by omega)]
        refine next_ld (i := (i, m', s')) (i + 1, a.module, a.target) 1 ?_ ⟨?_, ?_⟩ rfl (by repeat (first | exact lesA_nil | refine lesA_cons (AV.le_any _) ?_ | refine lesA_cons (AV.le_refl _) ?_ | refine lesA_cons (AV.le_pure rfl) ?_)) (by omega) (by simp) (by simp [go_sem]) (by simp [HO.inS, go_sem])
        · show _ - (i + 1) < _ - i; omega
        · show i + 1 ≤ 65; omega
        · rw [ha, show 65 - (i + 1) = 64 - i by omega]
  · have : 65 - i = 0 := by omega
    rw [this, endN] at ha
    simp only [go_sem, h64]
    refine res_storeAll rfl rfl rfl (by rfl) ?_
    simp only [go_sem]
    rw [ha]
    rw [show Tryz.f86.results.toList = [.cell 6 147, .tmp 7] from rfl]; refine ret_fun (by simp only [ares, aresL, ares1_cell, ares1_tmp, go_sem]; rfl) ?_ (by simp [go_sem, agg])
    simp [go_sem, agg, Ent.enc, zEnt, pt]

/-- the result of environ.Type -/
def typE (env : Env) (m s : Str) : TE × Str × Int :=
  if (endE env m s).2 ≠ 0 then (zTE, [], (endE env m s).2) else
  match (endE env m s).1.typ with
  | none => (zTE, [], 6)
  | some x => (x, (endE env m s).1.module, 0)

/-- the end of a name and where it leads -/
theorem endN_spec (env : Env) : ∀ (n : Nat) (m s : Str), (endN n env m s).2 = (resolveN n env m s).2.2 ∧
    ((endN n env m s).2 = 0 → ∃ i, fIf (resolveN n env m s).1 env = some i ∧ (endN n env m s).1.module = (resolveN n env m s).1 ∧ (endN n env m s).1.name = (resolveN n env m s).2.1 ∧
      (endN n env m s).1.typ = fTE (resolveN n env m s).2.1 i.types ∧ (endN n env m s).1.value = (if (fTE (resolveN n env m s).2.1 i.types).isSome then none else fVE (resolveN n env m s).2.1 i.values)) ∧
    ((endN n env m s).2 ≠ 0 → (endN n env m s).1 = zEnt ∧ (resolveN n env m s).1 = [] ∧ (resolveN n env m s).2.1 = [])
  | 0, m, s => by simp [endN, resolveN]
  | n + 1, m, s => by
    have ih := endN_spec env n
    unfold endN resolveN
    cases h1 : fIf m env with
    | none => simp [lookup, h1, zEnt]
    | some i =>
      cases h2 : fTE s i.types with
      | some x => simp [lookup, h1, h2]
      | none =>
        cases h3 : fVE s i.values with
        | some x => simp [lookup, h1, h2, h3]
        | none =>
          cases h4 : fAE s i.aliases with
          | none => simp [lookup, h1, h2, h3, h4, zEnt]
          | some a => simpa [lookup, h1, h2, h3, h4] using ih a.module a.target

theorem typE_eq (env : Env) (m s : Str) : typE env m s = tyAt env m s := by
  obtain ⟨h1, h2, h3⟩ := endN_spec env 65 m s
  unfold typE tyAt endE resolve
  by_cases h0 : (endN 65 env m s).2 = 0
  · obtain ⟨i, hi, a, b, c, d⟩ := h2 h0
    rw [← h1, if_neg (by simpa using h0), if_neg (by simpa using h0), hi, c, a]
    rfl
  · rw [← h1, if_pos h0, if_pos h0]

theorem end_typ {env : Env} {m s : Str} {x : TE} (h0 : (endE env m s).2 = 0) (h : (endE env m s).1.typ = some x) : ∃ i ∈ env, x ∈ i.types := by
  obtain ⟨h1, h2, h3⟩ := endN_spec env 65 m s
  obtain ⟨i, hi, a, b, c, d⟩ := h2 h0
  rw [endE, c] at h
  exact ⟨i, (fIf_mem hi).1, (fTE_mem h).1⟩

theorem env_Type (env : Env) (m s : Str) (hg : env.good) : Fun Tryz.prog 49 [.d (.sl false (env.map If.enc)), .d (.str m), .d (.str s)] (.tup [agg (tyAt env m s).1.enc, .d (.str (tyAt env m s).2.1), .d (.int .i64 (tyAt env m s).2.2)]) := by
  rw [← typE_eq]
  have hm : ∀ x, (endE env m s).2 = 0 → (endE env m s).1.typ = some x → ∃ i ∈ env, x ∈ i.types := fun x h0 h => end_typ h0 h
  obtain ⟨V, hV⟩ : ∃ V, V = typE env m s := ⟨_, rfl⟩
  rw [← hV]
  unfold typE at hV
  refine ACalls.of_awp false Tryz.func49 (by decide) rfl ?_
  simp only [show Tryz.f49.ntmps = 36 from rfl, List.length_cons, List.length_nil, Nat.reduceAdd, Nat.reduceSub, List.replicate, List.cons_append, List.nil_append, agg, List.map_cons, List.map_nil]
  simp only [go_sem]
  refine (env_end env m s hg).call (by simp only [go_sem]) (by simp [go_sem, agg]) ?_
  generalize he : endE env m s = e at *
  obtain ⟨⟨em, en, et, ev, ea⟩, er⟩ := e
  simp only [go_sem, agg]
  refine res_storeAll rfl (by simp [AV.one]) (by simp [Ent.enc_len]) rfl ?_
  by_cases h0 : er = 0
  · subst h0
    cases et with
    | none =>
      simp only [go_sem, Ent.enc, pt]
      simp only [Int.reduceEq, not_false_eq_true, decide_true, go_sem]
      refine res_storeAll rfl (by simp [AV.one]) (by rfl) rfl ?_
      simp only [go_sem]
      rw [show Tryz.f49.results.toList = [.cell 6 51, .tmp 7, .tmp 8] from rfl]; refine ret_fun (by simp only [ares, aresL, ares1_cell, ares1_tmp, go_sem]; rfl) ?_ (by simp [go_sem, agg])
      simp [go_sem, agg, hV, zTE, TE.enc_eq, zTy, Ty.enc_eq, Ty.kind, Ty.module, Ty.name, Ty.args, Ty.fields]
    | some x =>
      simp only [go_sem, Ent.enc, pt]
      obtain ⟨i, hi, hx⟩ := hm x rfl rfl
      refine awp_draw [false, false, false, false, false, false, false, true, false, false] [(5, 1), (6, 1)] mixed (by kernel_rfl) ?_
      simp only [go_sem]
      rw [List.take_of_length_le (Nat.le_of_eq (TE.enc_len x))]
      refine (copyEntry_ok x (hg.tpars i hi x hx) (hg.tbnd i hi x hx) (hg.tlow i hi x hx).1 (hg.tlow i hi x hx).2).callX (by simp only [go_sem, agg]) (by simp [go_sem, agg]) ?_
      simp only [go_sem, agg]
      refine res_storeAll rfl (by simp [AV.one]) (by simp [TE.enc_len]) rfl ?_
      simp only [go_sem]
      refine ⟨⟨stepOk_plain ?_, stepOk_plain ?_, trivial⟩, ?_⟩
      · simp only [go_sem]
      · simp only [go_sem]
      · simp only [go_sem]
        rw [show Tryz.f49.results.toList = [.cell 6 51, .tmp 7, .tmp 8] from rfl]; refine ret_fun (by simp only [ares, aresL, ares1_cell, ares1_tmp, go_sem]; rfl) ?_ (by simp [go_sem, agg])
        simp [go_sem, agg, hV]
  · have h0' := eq_false h0
    simp only [go_sem, h0']
    refine res_storeAll rfl (by simp [AV.one]) (by rfl) rfl ?_
    simp only [go_sem]
    rw [show Tryz.f49.results.toList = [.cell 6 51, .tmp 7, .tmp 8] from rfl]; refine ret_fun (by simp only [ares, aresL, ares1_cell, ares1_tmp, go_sem]; rfl) ?_ (by simp [go_sem, agg])
    simp [go_sem, agg, hV, h0, zTE, TE.enc_eq, zTy, Ty.enc_eq, Ty.kind, Ty.module, Ty.name, Ty.args, Ty.fields]

end Go.Proofs.YthhmioodienlmaaGreatDoor

/- Contracts of the program's lexer: bytes, names of types. -/
namespace Go.Proofs.YthhmioodienlmaaGreatDoor
open Go
set_option maxRecDepth 20000
set_option pp.deepTerms false
set_option pp.deepTerms.threshold 6
variable {P : Program} {H : List HO}

theorem lex_small (c : UInt8) : Fun Tryz.prog 155 [.d (.int .u8 c.toNat)] (.d (.bool (bSmall c))) := by
  refine ACalls.of_awp false Tryz.func155 (by decide) rfl ?_
  simp only [show Tryz.f155.ntmps = 9 from rfl, List.length_cons, List.length_nil, Nat.reduceAdd, Nat.reduceSub, List.replicate, List.cons_append, List.nil_append, agg, List.map_cons, List.map_nil]
  unfold bSmall
  by_cases h1 : (97 : Int) ≤ c.toNat <;> by_cases h2 : (c.toNat : Int) ≤ 122 <;> simp only [go_sem, h1, h2] <;> exact ret_fun rfl (by simp [go_sem]) rfl
theorem lex_capital (c : UInt8) : Fun Tryz.prog 152 [.d (.int .u8 c.toNat)] (.d (.bool (bCapital c))) := by
  refine ACalls.of_awp false Tryz.func152 (by decide) rfl ?_
  simp only [show Tryz.f152.ntmps = 9 from rfl, List.length_cons, List.length_nil, Nat.reduceAdd, Nat.reduceSub, List.replicate, List.cons_append, List.nil_append, agg, List.map_cons, List.map_nil]
  unfold bCapital
  by_cases h1 : (65 : Int) ≤ c.toNat <;> by_cases h2 : (c.toNat : Int) ≤ 90 <;> simp only [go_sem, h1, h2] <;> exact ret_fun rfl (by simp [go_sem]) rfl
theorem lex_digit (c : UInt8) : Fun Tryz.prog 169 [.d (.int .u8 c.toNat)] (.d (.bool (bDigit c))) := by
  refine ACalls.of_awp false Tryz.func169 (by decide) rfl ?_
  simp only [show Tryz.f169.ntmps = 9 from rfl, List.length_cons, List.length_nil, Nat.reduceAdd, Nat.reduceSub, List.replicate, List.cons_append, List.nil_append, agg, List.map_cons, List.map_nil]
  unfold bDigit
  by_cases h1 : (48 : Int) ≤ c.toNat <;> by_cases h2 : (c.toNat : Int) ≤ 57 <;> simp only [go_sem, h1, h2] <;> exact ret_fun rfl (by simp [go_sem]) rfl
theorem lex_word (c : UInt8) : Fun Tryz.prog 154 [.d (.int .u8 c.toNat)] (.d (.bool (bWord c))) := by
  refine ACalls.of_awp false Tryz.func154 (by decide) rfl ?_
  simp only [show Tryz.f154.ntmps = 17 from rfl, List.length_cons, List.length_nil, Nat.reduceAdd, Nat.reduceSub, List.replicate, List.cons_append, List.nil_append, agg, List.map_cons, List.map_nil]
  unfold bWord
  simp only [go_sem]
  refine (lex_small c).call rfl rfl ?_
  cases bSmall c
  · simp only [go_sem]
    refine (lex_capital c).call rfl rfl ?_
    cases bCapital c
    · simp only [go_sem]
      refine (lex_digit c).call rfl rfl ?_
      cases bDigit c
      · simp only [go_sem]; exact ret_fun rfl (by simp [go_sem]) rfl
      · simp only [go_sem]; exact ret_fun rfl (by simp [go_sem]) rfl
    · simp only [go_sem]; exact ret_fun rfl (by simp [go_sem]) rfl
  · simp only [go_sem]; exact ret_fun rfl (by simp [go_sem]) rfl
def bLow (c : UInt8) : Bool := bSmall c || bDigit c
theorem lex_low (c : UInt8) : Fun Tryz.prog 168 [.d (.int .u8 c.toNat)] (.d (.bool (bLow c))) := by
  refine ACalls.of_awp false Tryz.func168 (by decide) rfl ?_
  simp only [show Tryz.f168.ntmps = 9 from rfl, List.length_cons, List.length_nil, Nat.reduceAdd, Nat.reduceSub, List.replicate, List.cons_append, List.nil_append, agg, List.map_cons, List.map_nil]
  unfold bLow
  simp only [go_sem]
  refine (lex_small c).call rfl rfl ?_
  cases bSmall c
  · simp only [go_sem]
    refine (lex_digit c).call rfl rfl ?_
    cases bDigit c
    · simp only [go_sem]; exact ret_fun rfl (by simp [go_sem]) rfl
    · simp only [go_sem]; exact ret_fun rfl (by simp [go_sem]) rfl
  · simp only [go_sem]; exact ret_fun rfl (by simp [go_sem]) rfl

theorem lex_all (s : Str) (h : s.length ≤ 4294967296) (f : FuncId) (p : UInt8 → Bool) (hok : Hok H) (hc : ∀ c, Fun Tryz.prog f [.d (.int .u8 c.toNat)] (.d (.bool (p c)))) :
    FunH Tryz.prog 153 [.d (.str s), .fn (.func f) [] []] H (.d (.bool (s.all p))) := by
  refine ACalls.of_awp false Tryz.func153 (by decide) rfl ?_
  simp only [show Tryz.f153.ntmps = 18 from rfl, List.length_cons, List.length_nil, Nat.reduceAdd, Nat.reduceSub, List.replicate, List.cons_append, List.nil_append, agg, List.map_cons, List.map_nil]
  simp only [go_sem]
  refine awp_loop (ι := Nat) (fun i => [.d (.str s), .fn (.func f) [] [], .any, .any, .any, .any, .any, .d (.int .i64 s.length), .d (.int .i64 i), .any, .any, .any, .any, .any, .any, .any, .any, .any]) (fun _ => H) (fun i => s.length - i) (fun i => i ≤ s.length ∧ s.all p = (s.drop i).all p) 0 ⟨by omega, rfl⟩ (Weak.les (by repeat (first | exact lesA_nil | refine lesA_cons (AV.le_any _) ?_ | refine lesA_cons (AV.le_refl _) ?_ | refine lesA_cons (AV.le_pure rfl) ?_))) ?_
  rintro i ⟨hi, ha⟩
  simp only [go_sem]
  refine cnd_lt (fun hlt => ?_) (fun hge => ?_)
  · have hd := List.drop_eq_getElem_cons hlt
    simp only [go_sem]
    refine res_indexS (by omega) (c := s[i]) (by simp [hlt]) ?_
    simp only [go_sem]
    refine (hc _).call rfl rfl ?_
    rw [hd, List.all_cons] at ha
    cases hp : p s[i]
    · simp only [go_sem]
      refine ret_back0 rfl ?_ rfl hok
      rw [ha, hp]; simp [go_sem]
    · simp only [go_sem, wrap_succ (i := i) (by omega)]
      exact ⟨i + 1, by show _ - (i + 1) < _ - i; omega, ⟨hlt, by rw [ha, hp]; rfl⟩, Weak.les (by repeat (first | exact lesA_nil | refine lesA_cons (AV.le_any _) ?_ | refine lesA_cons (AV.le_refl _) ?_ | refine lesA_cons (AV.le_pure rfl) ?_))⟩
  · simp only [go_sem]
    have hnil : s.drop i = [] := List.drop_eq_nil_of_le hge
    refine ret_back0 rfl ?_ rfl hok
    rw [ha, hnil]; simp [go_sem]

theorem lex_IsType (s : Str) (h : s.length ≤ 4294967296) : Fun Tryz.prog 95 [.d (.str s)] (.d (.bool (isType s))) := by
  refine ACalls.of_awp false Tryz.func95 (by decide) rfl ?_
  simp only [show Tryz.f95.ntmps = 19 from rfl, List.length_cons, List.length_nil, Nat.reduceAdd, Nat.reduceSub, List.replicate, List.cons_append, List.nil_append, agg, List.map_cons, List.map_nil]
  unfold isType
  by_cases h1 : (1 : Int) ≤ s.length
  · have hne : ¬ s = [] := by rintro rfl; simp at h1
    by_cases h2 : (s.length : Int) ≤ 32
    · simp only [go_sem, h1, h2, hne]
      refine res_indexS (Int.le_refl _) (c := s.headD 0) (headD_at (by omega)) ?_
      simp only [go_sem]
      refine (lex_capital _).call rfl rfl ?_
      cases bCapital (s.headD 0)
      · simp only [go_sem]; exact ret_fun rfl (by simp [go_sem]) rfl
      · simp only [go_sem]
        refine (lex_all s h _ bWord (by intro o ho; cases ho) lex_word).call ?_
        cases s.all bWord <;> (simp only [go_sem]; exact ret_fun rfl (by simp [go_sem]) rfl)
    · simp only [go_sem, h1, h2, hne]; exact ret_fun rfl (by simp [go_sem]) rfl
  · have he : s = [] := by cases s with | nil => rfl | cons => simp at h1; omega
    subst he
    simp only [go_sem, h1]; exact ret_fun rfl (by simp [go_sem]) rfl

end Go.Proofs.YthhmioodienlmaaGreatDoor
