/- The abstract machine, part 7: variables made, boxes, stores, structs and literals. -/
import Derived.Test.YthhmioodienlmaaGreatDoorKA
import Derived.Laws.Append
set_option linter.unusedSimpArgs false
set_option linter.unusedVariables false
namespace Go.Proofs.YthhmioodienlmaaGreatDoor
open Go

variable {P : Program} {G : List GI} {T : Tips} {K : Kmem} {w : World} {H H' : List HO}

theorem RelD.oneCell {x : D} {v : Value} (h : RelD K x v) : v.oneCell' = true := by
  cases x <;> simp only [RelD] at h
  · subst h; rfl
  · subst h; rfl
  · obtain ⟨rfl, _⟩ := h; rfl
  · obtain ⟨rfl, h⟩ := h; exact h
  · obtain ⟨a, n, cap, rfl, _⟩ := h; rfl
  · obtain ⟨b, o, rfl, _⟩ := h; rfl

theorem RelA.oneCell {a : AV} {v : Value} (ha : a.one = true) (h : RelA G T K a v) : v.oneCell' = true := by
  cases a <;> simp only [AV.one] at ha <;> simp only [RelA] at h
  · exact h.oneCell
  · cases ha
  · cases ha
  · obtain ⟨g, _, h, _⟩ := h; exact h
  · obtain ⟨vs, ws, rfl, _⟩ := h; rfl
  · obtain ⟨g, _, h, _⟩ := h; exact h
  · obtain ⟨g, _, h, _⟩ := h; exact h
  · exact RelD.oneCell h.1
  · obtain ⟨g, _, h, _⟩ := h; exact h
  · obtain ⟨g, _, h, _⟩ := h; exact h
  · obtain ⟨g, _, h, _⟩ := h; exact h
  · cases ha

theorem cells_of_one {v : Value} (h : v.oneCell' = true) : v.cells = #[v] := by cases v <;> first | rfl | cases h

theorem RelAs.oneCells {cs : List AV} {vs : List Value} (hc : cs.all AV.one = true) (h : RelAs G T K cs vs) : ∀ u ∈ vs, u.oneCell' = true := by
  induction cs generalizing vs with
  | nil => simp only [RelAs] at h; subst h; simp
  | cons c cs ih =>
    simp only [RelAs] at h
    obtain ⟨y, ws, rfl, h1, h2⟩ := h
    simp only [List.all_cons, Bool.and_eq_true] at hc
    intro u hu
    simp only [List.mem_cons] at hu
    rcases hu with rfl | hu
    · exact h1.oneCell hc.1
    · exact ih hc.2 h2 u hu

theorem cells_rel {a : AV} {v : Value} {cs : List AV} (h : RelA G T K a v) (hc : a.cells? = some cs) : RelAs G T K cs v.cells.toList ∧ ∀ u ∈ v.cells.toList, u.oneCell' = true := by
  have key : a.one = true → cs = [a] → RelAs G T K cs v.cells.toList ∧ ∀ u ∈ v.cells.toList, u.oneCell' = true := by
    intro h1 h2
    subst h2
    have ho := h.oneCell h1
    rw [cells_of_one ho]
    exact ⟨RelAs.cons h RelAs.nil, by simp [ho]⟩
  cases a <;> simp only [AV.cells?] at hc
  case agg cs' =>
    split at hc
    · rename_i h1
      simp only [Option.some.injEq] at hc; subst hc
      simp only [RelA] at h
      obtain ⟨vs, rfl, h⟩ := h
      exact ⟨h, h.oneCells h1⟩
    · cases hc
  case tup => cases hc
  case any => cases hc
  all_goals (simp only [Option.some.injEq] at hc; exact key rfl hc.symm)

theorem absD_rel {c : Value} (h : c.oneCell' = true) : RelD K (absD c) c := by
  unfold absD
  split
  · simp only [RelD]
  · simp only [RelD]
  · split
    · rename_i h1; simp only [RelD]; exact ⟨by trivial, h1⟩
    · simp only [RelD]; exact ⟨by simp, rfl⟩
  · simp only [RelD]
    exact ⟨none, 0, 0, rfl, rfl, Nat.le_refl _, fun _ => rfl, by decide, fun _ => rfl, fun ad e => by cases e⟩
  · simp only [RelD]; exact ⟨by simp, h⟩

theorem absDs_rel {cs : List Value} (h : ∀ c ∈ cs, c.oneCell' = true) : RelAs G T K ((cs.map absD).map .d) cs := by
  induction cs with
  | nil => exact RelAs.nil
  | cons c cs ih =>
    simp only [List.map_cons]
    exact RelAs.cons (by simp only [RelA]; exact absD_rel (h c (by simp))) (ih fun x hx => h x (by simp [hx]))

theorem absV_rel (v : Value) : RelA G T K (absV v) v := by
  unfold absV
  split
  · rename_i cs
    split
    · rename_i h
      simp only [RelA]
      refine ⟨cs, rfl, ?_⟩
      have := absDs_rel (G := G) (T := T) (K := K) (cs := cs.toList) (fun c hc => (Array.all_eq_true_iff_forall_mem.1 h) c (by simpa using hc))
      simpa [List.map_map, Function.comp_def] using this
    · simp only [RelA]
  · simp only [RelA]
  · rename_i h1 h2
    simp only [RelA]
    refine absD_rel ?_
    cases v <;> first | rfl | (exact (h1 _ rfl).elim) | (exact (h2 _ rfl).elim)

theorem fOk_zero (o : Nat) : fOk (0, 0) o := by simp [fOk]

/-- a new row of cells, as an object -/
theorem Inv.newCells (hI : Inv G K w H) {w' : World} {vs : Array Value} {t : TypeId} (hw : w'.heap = w.heap.push (.cells vs t)) (ho : Out w w') {cs : List AV} (hle : cs.length ≤ vs.size)
    (hr : RelAs G (tipsOf H) K cs (vs.toList.take cs.length)) :
    Inv (G ++ [.cells w.heap.size vs.size]) K w' (H ++ [.cells cs]) ∧ Post G.length G (tipsOf H) K w (G ++ [.cells w.heap.size vs.size]) (tipsOf (H ++ [.cells cs])) K w' ∧
      RelA (G ++ [.cells w.heap.size vs.size]) (tipsOf (H ++ [.cells cs])) K (.ptr H.length 0) (.pointer (some ⟨w.heap.size, 0, none⟩)) := by
  have h := hI.new hw ho (.cells cs) (.cells w.heap.size vs.size) (by simp [GI.blocks]) (by
    simp only [ObjRel]
    refine ⟨⟨vs, t, (0, 0), heap_push_eq hw, fun o _ => fOk_zero o, rfl, hle, hr.evo (Kle.refl K) (Evo.append G H hI.len _ _)⟩, fun o => ?_⟩
    cases hk : K w.heap.size o with
    | none => rfl
    | some v => have := hI.k_lt hk; omega) (by intro m ck es todo cur it snap ck' es' b bs e; cases e)
  refine ⟨h.1, h.2, ?_⟩
  simp only [RelA]
  exact ⟨.cells w.heap.size vs.size, by rw [← hI.len]; simp, rfl, .inr ⟨_, _, rfl, rfl⟩⟩

theorem Inv.newCells' (hI : Inv G K w H) {w' : World} {vs : Array Value} {t : TypeId} (hw : w'.heap = w.heap.push (.cells vs t)) (ho : Out w w') {cs : List AV} (hr : RelAs G (tipsOf H) K cs vs.toList) :
    Inv (G ++ [.cells w.heap.size vs.size]) K w' (H ++ [.cells cs]) ∧ Post G.length G (tipsOf H) K w (G ++ [.cells w.heap.size vs.size]) (tipsOf (H ++ [.cells cs])) K w' ∧
      RelA (G ++ [.cells w.heap.size vs.size]) (tipsOf (H ++ [.cells cs])) K (.ptr H.length 0) (.pointer (some ⟨w.heap.size, 0, none⟩)) := by
  have hl := hr.length
  simp only [Array.length_toList] at hl
  refine hI.newCells hw ho (by omega) ?_
  rw [hl, ← Array.length_toList, List.take_length]
  exact hr

theorem oAlloc_sound (hI : Inv G K w H) {t : TypeId} {x : AV} (h : oAlloc (tinfo P t) H = some (x, H')) :
    ∃ y w' G', (Instr.alloc t true (.tuple #[])).run P w = .ok y w' ∧ RelA G' (tipsOf H') K x y ∧ Inv G' K w' H' ∧ Post G.length G (tipsOf H) K w G' (tipsOf H') K w' := by
  unfold oAlloc at h
  cases ht : tinfo P t with
  | none => simp [ht] at h
  | some ti =>
    rw [ht] at h
    simp only [Option.some.injEq, Prod.mk.injEq] at h
    obtain ⟨rfl, rfl⟩ := h
    obtain ⟨i, d, z, h1, h2, h3, h4, rfl⟩ := tinfo_spec ht
    have hz : ∀ c ∈ z.cells.toList, c.oneCell' = true := fun c hc => (Array.all_eq_true_iff_forall_mem.1 h4.1) c (by simpa using hc)
    obtain ⟨k1, k2, k3⟩ := hI.newCells' (w' := { w with heap := w.heap.push (.cells z.cells t) }) rfl ⟨rfl, rfl, rfl⟩ (absDs_rel (G := G) (T := tipsOf H) (K := K) hz)
    refine ⟨_, _, _, ?_, k3, k1, k2⟩
    simp [Instr.alloc, zeroValue, typeInfo, h1, h3, newVar, newRow]

theorem oBox_sound (hI : Inv G K w H) {t : TypeId} {a x : AV} {v : Value} (ha : RelA G (tipsOf H) K a v) (h : oBox a H = some (x, H')) :
    ∃ y w' G', (Instr.box t v).run P w = .ok y w' ∧ RelA G' (tipsOf H') K x y ∧ Inv G' K w' H' ∧ Post G.length G (tipsOf H) K w G' (tipsOf H') K w' := by
  unfold oBox at h
  split at h
  · rename_i cs hc
    simp only [Option.some.injEq, Prod.mk.injEq] at h
    obtain ⟨rfl, rfl⟩ := h
    obtain ⟨r1, _⟩ := cells_rel ha hc
    obtain ⟨k1, k2, k3⟩ := hI.newCells' (w' := { w with heap := w.heap.push (.cells v.cells t) }) rfl ⟨rfl, rfl, rfl⟩ r1
    refine ⟨_, _, _, ?_, k3, k1, k2⟩
    simp [Instr.box, newVar, newRow]
  · cases h

/-! ### stores -/
def asplice (vs : Array Value) (o : Nat) : List Value → Array Value
  | [] => vs
  | u :: us => asplice (vs.setIfInBounds o u) (o + 1) us

theorem asplice_size (us : List Value) : ∀ (vs : Array Value) (o : Nat), (asplice vs o us).size = vs.size := by
  induction us with
  | nil => intro vs o; rfl
  | cons u us ih => intro vs o; simp [asplice, ih]

theorem asplice_toList (us : List Value) : ∀ (vs : Array Value) (o : Nat), o + us.length ≤ vs.size → (asplice vs o us).toList = vs.toList.take o ++ us ++ vs.toList.drop (o + us.length) := by
  induction us with
  | nil => intro vs o h; simp [asplice]
  | cons u us ih =>
    intro vs o h
    simp only [List.length_cons] at h
    simp only [asplice]
    rw [ih _ _ (by simp; omega)]
    simp only [Array.toList_setIfInBounds, List.length_cons]
    have h1 : (vs.toList.set o u).take (o + 1) = vs.toList.take o ++ [u] := by
      rw [List.take_succ_eq_append_getElem (by simp; omega), List.getElem_set_self, List.take_set_of_le (Nat.le_refl o)]
    have h2 : (vs.toList.set o u).drop (o + 1 + us.length) = vs.toList.drop (o + (us.length + 1)) := by
      rw [List.drop_set_of_lt (by omega)]
      congr 1; omega
    rw [h1, h2]
    simp

theorem setCells_heap (us : List Value) : ∀ (w : World) (b o : Nat) (vs : Array Value) (t : TypeId) (fr : Nat × Nat), w.heap[b]? = some (.cells vs t fr) →
    (w.setCells b o us).heap[b]? = some (.cells (asplice vs o us) t fr) ∧ (∀ b', b' ≠ b → (w.setCells b o us).heap[b']? = w.heap[b']?) ∧ (w.setCells b o us).heap.size = w.heap.size ∧ Out w (w.setCells b o us) := by
  induction us with
  | nil => intro w b o vs t fr h; exact ⟨h, fun _ _ => rfl, rfl, ⟨rfl, rfl, rfl⟩⟩
  | cons u us ih =>
    intro w b o vs t fr h
    have hlt := (Array.getElem?_eq_some_iff.1 h).1
    have h1 : (w.setCell ⟨b, o, none⟩ u).heap[b]? = some (.cells (vs.setIfInBounds o u) t fr) := by
      simp only [World.setCell]
      rw [Array.getElem?_modify]
      simp [h]
    obtain ⟨k1, k2, k3, k4⟩ := ih (w.setCell ⟨b, o, none⟩ u) b (o + 1) _ t fr h1
    refine ⟨k1, fun b' hb => ?_, ?_, ⟨k4.os, k4.out, k4.tape⟩⟩
    · rw [World.setCells, k2 b' hb]
      simp only [World.setCell]
      rw [Array.getElem?_modify]
      simp [Ne.symm hb]
    · rw [World.setCells, k3]; simp [World.setCell]

theorem run_storeVar_any {t : TypeId} {i : TypeInfo} (h1 : P.info? t = some i) {b o : Nat} {v : Value} (hs : v.cells.size = i.size) (hone : ∀ u ∈ v.cells.toList, u.oneCell' = true)
    {vs : Array Value} {tt : TypeId} {fr : Nat × Nat} (hb : w.heap[b]? = some (.cells vs tt fr)) (hf : ∀ o, o < vs.size → fOk fr o) (hle : o + i.size ≤ vs.size) :
    (storeVar t ⟨b, o, none⟩ v).run P w = .ok () (w.setCells b o v.cells.toList) := by
  have := run_storeCells_cells (P := P) b o v.cells.toList 0 w
    (fun j hj => by
      rw [show o + 0 + j = o + j by omega, cell_of hb, Array.getElem?_eq_getElem (by simp at hj; omega)]; rfl)
    (fun j hj => by
      unfold World.frozen?
      simp only [hb]
      have h1 := hf (o + 0 + j) (by simp at hj; omega)
      unfold fOk at h1
      simp only [Bool.and_eq_false_imp, decide_eq_true_eq, decide_eq_false_iff_not]
      intro h2 h3
      exact h1 ⟨h2, h3⟩)
    hone
  simp only [Nat.add_zero] at this
  simp [storeVar, run_sizeOf h1, hs, this]

theorem splice_rel {cs new : List AV} {vs us : List Value} {off : Nat} (h1 : RelAs G T K cs vs) (h2 : RelAs G T K new us) : RelAs G T K (splice cs off new) (vs.take off ++ us ++ vs.drop (off + us.length)) := by
  unfold splice
  have := h2.length
  rw [this]
  exact ((h1.take off).append h2).append (h1.drop _)

theorem oStore_sound (hI : Inv G K w H) {t : TypeId} {a c x : AV} {v u : Value} (ha : RelA G (tipsOf H) K a v) (hc : RelA G (tipsOf H) K c u) (h : oStore (tinfo P t) a c H = some (x, H')) :
    x = .tup [] ∧ ∃ w', (Instr.storeAt t v u).run P w = .ok () w' ∧ Inv G K w' H' ∧ Post G.length G (tipsOf H) K w G (tipsOf H') K w' := by
  unfold oStore at h
  split at h
  · rename_i ti id off new ht hnew
    split at h
    · rename_i cs hcs
      split at h
      · rename_i hle
        simp only [Option.some.injEq, Prod.mk.injEq] at h
        obtain ⟨rfl, rfl⟩ := h
        refine ⟨rfl, ?_⟩
        have hcs' := hcells_spec hcs
        obtain ⟨b, n, vs, tt, fr, g1, g2, g3, g6, g7, g4, g5⟩ := hI.cells hcs'
        obtain ⟨i, d, z, h1, h2, h3, h4, rfl⟩ := tinfo_spec ht
        obtain rfl := ha.ptr_cells g1
        obtain ⟨r1, r2⟩ := cells_rel hc hnew
        have hl1 := r1.length
        simp only [mkTI] at hle
        simp only [Array.length_toList] at hl1
        have hst := run_storeVar_any (P := P) (v := u) h1 (by omega) r2 g2 g3 (o := off) (by omega)
        obtain ⟨k1, k2, k3, k4⟩ := setCells_heap u.cells.toList w b off vs tt fr g2
        refine ⟨w.setCells b off u.cells.toList, by simp [Instr.storeAt, Instr.sureAddr, hst], ?_⟩
        have hG : G.set id (.cells b n) = G := by
          have hil := (List.getElem?_eq_some_iff.1 g1).1
          apply List.ext_getElem? ; intro j
          by_cases e : id = j
          · subst e; rw [List.getElem?_set_self hil, g1]
          · rw [List.getElem?_set_ne e]
        have ht2 := tipsOf_set_notTip (o' := .cells (splice cs off new)) hcs' rfl rfl
        have hsl : (splice cs off new).length = cs.length := by simp [splice]; omega
        have hch := hI.change (w' := w.setCells b off u.cells.toList) (K' := K) id (g' := .cells b n) (o' := .cells (splice cs off new)) g1 hcs' (by omega)
          (fun b' _ hn => k2 b' (by simpa [GI.blocks] using hn)) k4 (by simp [GI.blocks]) (Kle.refl K)
          (fun b' p v' e1 e2 => by rw [e1] at e2; cases e2)
          (fun b' p v' e1 => by
            have hne : b' ≠ b := fun e => by subst e; rw [g5] at e1; cases e1
            rw [cell_same (k2 b' hne)]; exact hI.agree _ _ _ e1)
          (by rw [ht2]; exact evo1.refl _ _)
          (by
            rw [hG, ht2]
            simp only [ObjRel]
            refine ⟨⟨_, tt, fr, k1, fun o ho => g3 o (by rw [asplice_size] at ho; exact ho), by rw [asplice_size, g6], by omega, ?_⟩, g5⟩
            rw [asplice_toList _ _ _ (by simp; omega), hsl]
            have hh := splice_rel (off := off) g4 r1
            have e1 : (List.take off vs.toList ++ u.cells.toList ++ List.drop (off + u.cells.toList.length) vs.toList).take cs.length
                = List.take off (vs.toList.take cs.length) ++ u.cells.toList ++ List.drop (off + u.cells.toList.length) (vs.toList.take cs.length) := by
              have hA : (List.take off vs.toList ++ u.cells.toList).length = off + u.cells.toList.length := by simp; omega
              rw [List.take_append, hA, List.take_of_length_le (by rw [hA]; simp; omega), List.take_take, Nat.min_eq_left (by omega), List.drop_take]
            rw [e1]
            exact hh)
          (hI.walks_set g1 hcs' (by intro m ck es todo cur e; cases e) (by intro ck es e; cases e))
        rw [hG] at hch
        exact hch
      · cases h
    · cases h
  · rename_i ti id pos sz i k new ht hnew
    unfold oStoreRow at h
    split at h
    · rename_i n s es ds hH hds
      split at h
      · rename_i hc
        obtain ⟨rfl, rfl, hts, hdl, hil⟩ := hc
        simp only [Option.some.injEq, Prod.mk.injEq] at h
        obtain ⟨rfl, rfl⟩ := h
        refine ⟨rfl, ?_⟩
        obtain ⟨w0, hG, hobj, hT⟩ := hI.row hH
        obtain ⟨b, cap, rfl, rfl⟩ := ha.rp_at hH hG rfl
        have he : es[i]? = some es[i] := List.getElem?_eq_getElem hil
        obtain ⟨vs, tt, fr, g2, g3, g4, gel, gre⟩ := hI.rowElem hH he hG
        simp only [ObjRel] at hobj
        obtain ⟨⟨vs', tt', fr', c1, c2, c3, c4, c5, c6⟩, c7, c8⟩ := hobj
        rw [g2] at c1; cases c1
        obtain ⟨i', d, z, h1, h2, h3, h4, rfl⟩ := tinfo_spec ht
        obtain ⟨r1, r2⟩ := cells_rel hc hnew
        have hl1 := r1.length
        have hnl := toDs_length hds
        simp only [mkTI] at hts hdl
        simp only [Array.length_toList] at hl1
        have hgd : es.getD i [] = es[i] := by rw [List.getD_eq_getElem?_getD, he]; rfl
        rw [hgd]
        have hst := run_storeVar_any (P := P) (v := u) h1 (by omega) r2 g2 g3 (o := i * s + k) (by omega)
        obtain ⟨k1, k2, k3, k4⟩ := setCells_heap u.cells.toList w b (i * s + k) vs tt fr g2
        refine ⟨w.setCells b (i * s + k) u.cells.toList, by simp [Instr.storeAt, Instr.sureAddr] at hst ⊢; exact hst, ?_⟩
        have hil' : id < H.length := (List.getElem?_eq_some_iff.1 hH).1
        have hGs : G.set id (.row (some (b, cap))) = G := list_set_same hG
        have hdl' : (es[i].take k ++ ds ++ es[i].drop (k + ds.length)).length = s := by simp [gel]; omega
        have ht2 : tipsOf (H.set id (.row n s (es.set i (es[i].take k ++ ds ++ es[i].drop (k + ds.length))))) = tipsOf H := by
          funext j
          by_cases e : id = j
          · subst e
            unfold tipsOf
            rw [List.getElem?_set_self hil', hH]; simp
          · exact tipsOf_set_ne _ _ e
        have hch := hI.change (w' := w.setCells b (i * s + k) u.cells.toList) (K' := K) id (g' := .row (some (b, cap))) (o' := .row n s (es.set i (es[i].take k ++ ds ++ es[i].drop (k + ds.length)))) hG hH (by omega)
          (fun b' _ hn => k2 b' (by simpa [GI.blocks] using hn)) k4 (by simp [GI.blocks]) (Kle.refl K)
          (fun b' p v' e1 e2 => by rw [e1] at e2; cases e2)
          (fun b' p v' e1 => by
            have hne : b' ≠ b := fun e => by subst e; rw [c8] at e1; cases e1
            rw [cell_same (k2 b' hne)]; exact hI.agree _ _ _ e1)
          (by rw [ht2]; exact evo1.refl _ _)
          (by
            rw [hGs, ht2]
            simp only [ObjRel]
            refine ⟨⟨_, tt, fr, k1, fun o ho => g3 o (by rw [asplice_size] at ho; exact ho), by rw [asplice_size]; exact c3, by simpa using c4, fun e' he' => ?_, ?_⟩, by simpa using c7, c8⟩
            · rcases List.mem_or_eq_of_mem_set he' with hm | rfl
              · exact c5 _ hm
              · exact hdl'
            · rw [asplice_toList _ _ _ (by simp; omega), List.length_set, flatten_set c5 hil]
              have hcs : es.length * s ≤ cap * s := Nat.mul_le_mul_right _ c4
              have hmul : i * s + s ≤ es.length * s := by
                have := Nat.mul_le_mul_right s (show i + 1 ≤ es.length by omega)
                rw [Nat.add_mul] at this; omega
              have hul : u.cells.toList.length = ds.length := by simp; omega
              generalize hL : vs.toList.take (es.length * s) = L at c6
              have hLl : L.length = es.length * s := by rw [← hL]; simp; omega
              have e1 : (List.take (i * s + k) vs.toList ++ u.cells.toList ++ List.drop (i * s + k + u.cells.toList.length) vs.toList).take (es.length * s)
                  = List.take (i * s) L ++ (((L.drop (i * s)).take s).take k ++ u.cells.toList ++ ((L.drop (i * s)).take s).drop (k + ds.length)) ++ List.drop (i * s + s) L := by
                have hA : (List.take (i * s + k) vs.toList ++ u.cells.toList).length = i * s + k + ds.length := by simp [hul]; omega
                rw [List.take_append, hA, List.take_of_length_le (by rw [hA]; omega)]
                have q1 : List.take (i * s + k) vs.toList = List.take (i * s) L ++ ((L.drop (i * s)).take s).take k := by
                  rw [← hL, List.take_take, Nat.min_eq_left (by omega), List.take_take, Nat.min_eq_left (by omega), List.drop_take, List.take_take, Nat.min_eq_left (by omega), List.take_add]
                have q2 : List.take (es.length * s - (i * s + k + ds.length)) (List.drop (i * s + k + u.cells.toList.length) vs.toList) = ((L.drop (i * s)).take s).drop (k + ds.length) ++ List.drop (i * s + s) L := by
                  have q3 : List.take (es.length * s - (i * s + k + ds.length)) (List.drop (i * s + k + u.cells.toList.length) vs.toList) = L.drop (i * s + (k + ds.length)) := by
                    rw [← hL, List.drop_take, hul]
                    congr 1
                    · omega
                    · congr 1; omega
                  rw [q3, List.drop_take, List.drop_drop]
                  have q4 : L.drop (i * s + s) = (L.drop (i * s + (k + ds.length))).drop (s - (k + ds.length)) := by rw [List.drop_drop]; congr 1; omega
                  rw [q4, List.take_append_drop]
                rw [q1, q2]; simp only [List.append_assoc]
              rw [e1, List.map_append, List.map_append, List.map_take, List.map_drop]
              refine ((c6.take _).append ?_).append (c6.drop _)
              rw [List.map_append, List.map_append, List.map_take, List.map_drop]
              have gre' : RelAs G (tipsOf H) K (es[i].map .d) ((L.drop (i * s)).take s) := by
                have : (L.drop (i * s)).take s = (vs.toList.drop (i * s)).take s := by rw [← hL, List.drop_take, List.take_take, Nat.min_eq_left (by omega)]
                rw [this]; exact gre
              exact ((gre'.take _).append (toDs_rel hds r1)).append (gre'.drop _))
          (hI.walks_set hG hH (by intro m ck es todo cur e; cases e) (by intro ck es e; cases e))
        rw [hGs] at hch
        exact hch
      · cases h
    · cases h
  · cases h

end Go.Proofs.YthhmioodienlmaaGreatDoor

/- The abstract machine, part 8: slices that are made, cut and grown. -/
namespace Go.Proofs.YthhmioodienlmaaGreatDoor
open Go

variable {P : Program} {G : List GI} {T : Tips} {K : Kmem} {w : World} {H H' : List HO}

/-- the memory in which cells lo .. hi - 1 of block b are fixed from now on -/
def Kmem.row (K : Kmem) (b lo hi : Nat) (vs : Array Value) : Kmem := fun b' o => if b' = b ∧ lo ≤ o ∧ o < hi then vs[o]? else K b' o

theorem Kle.row {b lo hi : Nat} {vs : Array Value} (h : ∀ o, lo ≤ o → o < hi → K b o = none) : Kle K (K.row b lo hi vs) := fun b' o v hv => by
  unfold Kmem.row
  split
  · rename_i hc
    obtain ⟨rfl, h1, h2⟩ := hc
    rw [h o h1 h2] at hv; cases hv
  · exact hv

theorem Kmem.row_new {b lo hi : Nat} {vs : Array Value} {b' o : Nat} {v : Value} (h1 : K.row b lo hi vs b' o = some v) (h2 : K b' o = none) : b' = b ∧ lo ≤ o ∧ o < hi := by
  unfold Kmem.row at h1
  split at h1
  · assumption
  · rw [h2] at h1; cases h1

theorem Kmem.row_at {b lo hi : Nat} {vs : Array Value} {o : Nat} (h1 : lo ≤ o) (h2 : o < hi) : K.row b lo hi vs b o = vs[o]? := by
  unfold Kmem.row; rw [if_pos ⟨rfl, h1, h2⟩]

theorem RelCs.of_get {b : Nat} {cs : List D} : ∀ {o : Nat}, (∀ i c, cs[i]? = some c → ∃ v, K b (o + i) = some v ∧ RelD K c v) → RelCs K b o cs := by
  induction cs with
  | nil => intro o _; simp only [RelCs]
  | cons c cs ih =>
    intro o h
    simp only [RelCs]
    refine ⟨by simpa using h 0 c (by simp), ih fun i c' hc => ?_⟩
    have := h (i + 1) c' (by simpa using hc)
    rwa [show o + (i + 1) = o + 1 + i by omega] at this

theorem RelEs.of_get {b : Nat} {es : List (List D)} : ∀ {o : Nat}, (∀ i c, es.flatten[i]? = some c → ∃ v, K b (o + i) = some v ∧ RelD K c v) → RelEs K b o es := by
  induction es with
  | nil => intro o _; simp only [RelEs]
  | cons e es ih =>
    intro o h
    simp only [RelEs]
    refine ⟨RelCs.of_get fun i c hc => h i c ?_, ih fun i c hc => ?_⟩
    · rw [List.flatten_cons, List.getElem?_append_left (List.getElem?_eq_some_iff.1 hc).1]; exact hc
    · have := h (e.length + i) c (by rw [List.flatten_cons, List.getElem?_append_right (by omega)]; simpa using hc)
      rwa [show o + (e.length + i) = o + e.length + i by omega] at this

theorem flatten_length {es : List (List D)} {sz : Nat} (h : ∀ e ∈ es, e.length = sz) : es.flatten.length = es.length * sz := by
  induction es with
  | nil => simp
  | cons e es ih =>
    rw [List.flatten_cons, List.length_append, ih (fun x hx => h x (by simp [hx])), h e (by simp), List.length_cons, Nat.add_mul]
    omega

/-- the cells of a row of pure data, as values -/
theorem RelEs.vals {b o sz : Nat} {es : List (List D)} (h : RelEs K b o es) (hu : ∀ e ∈ es, e.length = sz) :
    ∃ vs : List Value, vs.length = es.length * sz ∧ (∀ i v, vs[i]? = some v → K b (o + i) = some v) ∧ RelAs G T K (es.flatten.map .d) vs := by
  induction es generalizing o with
  | nil => exact ⟨[], by simp, fun i v h => by simp at h, RelAs.nil⟩
  | cons e es ih =>
    simp only [RelEs] at h
    obtain ⟨us, l1, k1, r1⟩ := h.1.vals (G := G) (T := T)
    obtain ⟨vs, l2, k2, r2⟩ := ih h.2 (fun x hx => hu x (by simp [hx]))
    refine ⟨us ++ vs, ?_, ?_, ?_⟩
    · rw [List.length_append, l1, l2, hu e (by simp), List.length_cons, Nat.add_mul]; omega
    · intro i v hv
      by_cases hi : i < us.length
      · rw [List.getElem?_append_left hi] at hv; exact k1 i v hv
      · rw [List.getElem?_append_right (by omega)] at hv
        have := k2 (i - us.length) v hv
        rwa [show o + e.length + (i - us.length) = o + i by omega] at this
    · rw [List.flatten_cons, List.map_append]; exact r1.append r2

theorem RelAs.d_get {cs : List D} {vs : List Value} (h : RelAs G T K (cs.map .d) vs) {i : Nat} {c : D} (hc : cs[i]? = some c) : ∃ v, vs[i]? = some v ∧ RelD K c v := by
  obtain ⟨v, h1, h2⟩ := h.get (i := i) (x := .d c) (by simp [hc])
  exact ⟨v, h1, by simpa only [RelA] using h2⟩

/-- what an appended value's elements are -/
def elems? (H : List HO) (a : AV) : Option (List (List D)) :=
  match a with
  | .arr id off len sz => match hcells H id with | some cs => if off + len * sz ≤ cs.length then (toDs ((cs.drop off).take (len * sz))).map (chunk sz len) else none | none => none
  | .d (.sl _ es) => some es
  | .vec _ _ es => some es
  | .d (.str s) => some (s.map fun c => [.int .u8 c.toNat])
  | _ => none

/-- its cells as values: the length that append sees, and what `firstCells` reads -/
theorem elems_run (hI : Inv G K w H) {a : AV} {v : Value} {es : List (List D)} (ha : RelA G (tipsOf H) K a v) (he : elems? H a = some es) {sz : Nat} (hu : ∀ e ∈ es, e.length = sz) :
    (∀ w', (Builtin.lenOf v).run P w' = .ok es.length w') ∧ ∃ us : Array Value, us.size = es.length * sz ∧ RelAs G (tipsOf H) K (es.flatten.map .d) us.toList ∧ (∀ u ∈ us.toList, u.oneCell' = true) ∧
      ∀ w', w'.heap = w.heap → (Builtin.firstCells sz es.length v).run P w' = .ok us w' := by
  have hagw : ∀ w' : World, w'.heap = w.heap → ∀ b o x, K b o = some x → w'.cell? ⟨b, o, none⟩ = some x := fun w' hw' b o x hk =>
    (cell_same (w := w) (w' := w') (by rw [hw'])).trans (hI.agree b o x hk)
  have key : ∀ c, RelD K (.sl c es) v → (∀ w', (Builtin.lenOf v).run P w' = .ok es.length w') ∧ ∃ us : Array Value, us.size = es.length * sz ∧ RelAs G (tipsOf H) K (es.flatten.map .d) us.toList ∧ (∀ u ∈ us.toList, u.oneCell' = true) ∧
      ∀ w', w'.heap = w.heap → (Builtin.firstCells sz es.length v).run P w' = .ok us w' := by
    intro c hr
    simp only [RelD] at hr
    obtain ⟨a, n, cap, rfl, rfl, r2, r3, r4, r5, r6⟩ := hr
    refine ⟨fun w' => by simp [Builtin.lenOf], ?_⟩
    cases a with
    | none =>
      have : es = [] := by
        have := r5 rfl
        cases es with
        | nil => rfl
        | cons e es => simp at r2; omega
      subst this
      exact ⟨#[], by simp, by simpa using RelAs.nil, by simp, fun w' _ => by simp [Builtin.firstCells]⟩
    | some ad =>
      obtain ⟨b, o, sp⟩ := ad
      obtain ⟨s1, _, s3⟩ := r6 _ rfl
      by_cases hc0 : cap = 0
      · have : es = [] := List.eq_nil_of_length_eq_zero (by omega)
        subst this
        exact ⟨#[], by simp, by simpa using RelAs.nil, by simp, fun w' _ => by simp [Builtin.firstCells, loadCells, loadCellsFrom]⟩
      simp only at s1 s3
      have s1 := s1 hc0
      subst s1
      obtain ⟨vs, l, k, r⟩ := s3.vals (G := G) (T := tipsOf H) hu
      refine ⟨vs.toArray, by simpa using l, by simpa using r, ?_, fun w' hw' => ?_⟩
      · have := r.oneCells (by simp [AV.one])
        simpa using this
      · exact run_firstCells_some (P := P) w' sz es.length ⟨b, o, none⟩ es.length cap vs l (fun j v hv => by rw [Addr.add_mid]; exact hagw w' hw' _ _ _ (k j v hv))
  cases a with
  | d x =>
    cases x with
    | sl c xs =>
      simp only [elems?, Option.some.injEq] at he; subst he
      simp only [RelA] at ha
      exact key c ha
    | str s =>
      simp only [elems?, Option.some.injEq] at he; subst he
      simp only [RelA, RelD] at ha
      obtain ⟨rfl, _⟩ := ha
      have hsz : (⟨s.toArray⟩ : ByteArray).size = s.length := by show s.toArray.size = _; simp
      refine ⟨fun w' => by simp [Builtin.lenOf, hsz], (s.map fun c => Value.int .u8 c.toNat).toArray, ?_, ?_, by simp [Value.oneCell'], fun w' _ => ?_⟩
      · cases s with
        | nil => simp
        | cons c s =>
          have := hu [.int .u8 c.toNat] (by simp)
          simp at this; subst this; simp
      · clear hu hsz key
        rename_i hlen
        clear hlen
        induction s with
        | nil => simpa using RelAs.nil
        | cons c s ih =>
          simp only [List.map_cons, List.flatten_cons, List.cons_append, List.nil_append]
          exact RelAs.cons (by simp only [RelA, RelD]) (by simpa using ih)
      · simp only [Builtin.firstCells, List.length_map]
        have e1 : (⟨s.toArray⟩ : ByteArray).extract 0 s.length = ⟨s.toArray⟩ := by
          have := ByteArray.extract_zero_size (b := (⟨s.toArray⟩ : ByteArray))
          rwa [hsz] at this
        rw [e1]
        simp
    | _ => simp [elems?] at he
  | vec id pos xs =>
    simp only [elems?, Option.some.injEq] at he; subst he
    simp only [RelA] at ha
    exact key false ha.1
  | arr id off len sz0 =>
    simp only [elems?] at he
    cases hc : hcells H id with
    | none => simp [hc] at he
    | some cs =>
      simp only [hc] at he
      split at he
      · rename_i hle
        simp only [Option.map_eq_some_iff] at he
        obtain ⟨ds, hds, rfl⟩ := he
        obtain ⟨b, n', vs, tt, fr, g1, g2, g3, g6, g7, g4, g5⟩ := hI.cells (hcells_spec hc)
        obtain ⟨cap, rfl, _⟩ := ha.arr_cells g1
        have hdl := toDs_length hds
        have hdl2 : ds.length = len * sz0 := by rw [hdl]; simp; omega
        obtain ⟨q1, q2, q3⟩ := chunk_spec (sz := sz0) (n := len) (l := ds) hdl2
        have hrel := toDs_rel hds ((g4.drop off).take (len * sz0))
        have hsz : len * sz0 = len * sz := by
          cases hcx : chunk sz0 len ds with
          | nil => rw [hcx] at q2; simp at q2; subst q2; simp
          | cons x xs =>
            have h1 := q3 x (by rw [hcx]; simp)
            have h2 := hu x (by rw [hcx]; simp)
            rw [← h1, ← h2]
        have hul : (((vs.toList.take cs.length).drop off).take (len * sz0)).length = len * sz0 := by simp; omega
        refine ⟨fun w' => by simp [Builtin.lenOf, q2], (((vs.toList.take cs.length).drop off).take (len * sz0)).toArray, ?_, ?_, ?_, fun w' hw' => ?_⟩
        · rw [List.size_toArray, hul, q2, hsz]
        · rw [q1]; exact hrel
        · have := hrel.oneCells (by simp [AV.one])
          simpa using this
        · rw [q2]
          refine run_firstCells_some (P := P) w' sz len ⟨b, off, none⟩ len cap _ (by rw [hul, hsz]) (fun j v hv => ?_)
          rw [Addr.add_mid, cell_same (w := w) (w' := w') (by rw [hw']), cell_of g2]
          rw [List.getElem?_take] at hv
          split at hv
          · rw [List.getElem?_drop, List.getElem?_take] at hv
            split at hv
            · simpa using hv
            · cases hv
          · cases hv
      · cases he
  | _ => simp [elems?] at he

end Go.Proofs.YthhmioodienlmaaGreatDoor

/- The abstract machine, part 9: append. -/
namespace Go.Proofs.YthhmioodienlmaaGreatDoor
open Go

variable {P : Program} {G : List GI} {T : Tips} {K : Kmem} {w : World} {H H' : List HO}

def notInt (P : Program) (t : TypeId) : Bool := match P.underlying t with | some (.int _) => false | some _ => true | none => false

theorem notInt_spec {t : TypeId} (h : notInt P t = true) : ∃ d, P.underlying t = some d ∧ (match d with | TypeDesc.int _ => true | _ => false) = false := by
  unfold notInt at h
  cases hu : P.underlying t with
  | none => simp [hu] at h
  | some d => rw [hu] at h; cases d <;> simp_all

theorem zeroCells_size (z : Array Value) (n : Nat) : (Builtin.zeroCells z n).size = n * z.size := by simp [Builtin.zeroCells]

/-- there is room: the elements are written behind the last one -/
theorem run_append_fits {t t2 ty e : TypeId} {i : TypeInfo} (h2 : P.underlying t = some (.slice e)) (he : P.info? e = some i) (hn : notInt P t2 = true)
    {base : Option Addr} {n0 cap k : Nat} {u : Value} {us : Array Value} (hl : ∀ w', (Builtin.lenOf u).run P w' = .ok k w') (hf : (Builtin.firstCells i.size k u).run P w = .ok us w) (hle : n0 + k ≤ cap)
    {w' : World} (hst : ∀ a, base = some a → (storeCells (a.add (n0 * i.size)) us.toList).run P w = .ok () w') (hno : base = none → w' = w) :
    (Builtin.append_ #[t, t2] ty #[.slice base n0 cap, u]).run P w = .ok (.slice base (n0 + k) cap) w' := by
  unfold Builtin.append_
  obtain ⟨d2, h3, hb⟩ := notInt_spec hn
  cases d2 <;> first
    | (simp at hb; done)
    | (simp only [List.getElem?_toArray, List.getElem?_cons_zero, List.getElem?_cons_succ, Sem.run_bind, run_under h2, run_under h3, Result.andThen_ok, run_sizeOf he, Sem.run_pure, Bool.false_eq_true, if_false, hl, hle, if_true, Bool.not_false, Sem.run_ite, hf]
       cases base with
       | none => simp [hno rfl]
       | some a => simp [hst a rfl])

/-- there is none: a new row -/
theorem run_append_grows {t t2 ty e : TypeId} {i : TypeInfo} {z : Value} (h2 : P.underlying t = some (.slice e)) (he : P.info? e = some i) (hz0 : i.zero = some z) (hn : notInt P t2 = true)
    {base : Option Addr} {n0 cap k : Nat} {u : Value} {os us : Array Value} (hl : ∀ w', (Builtin.lenOf u).run P w' = .ok k w')
    (hfo : ∀ w', w'.heap = w.heap → (Builtin.firstCells i.size n0 (.slice base n0 cap)).run P w' = .ok os w') (hfu : ∀ w', w'.heap = w.heap → (Builtin.firstCells i.size k u).run P w' = .ok us w') (hle : cap < n0 + k)
    (hlim : (n0 + k) * i.bytes ≤ 140737488355328) (hlim2 : n0 + k ≤ 4294967296) :
    ∃ c, n0 + k ≤ c ∧ (Builtin.append_ #[t, t2] ty #[.slice base n0 cap, u]).run P w =
      .ok (.slice (some ⟨w.heap.size, 0, none⟩) (n0 + k) c) { w with heap := w.heap.push (.cells (os ++ us ++ Builtin.zeroCells z.cells (c - (n0 + k))) e), drawn := w.drawn + 1 } := by
  refine ⟨(Question.appendCap (n0 + k) cap e).cut (w.tape w.drawn (.appendCap (n0 + k) cap e)), by simp [Question.cut], ?_⟩
  unfold Builtin.append_
  obtain ⟨d2, h3, hb⟩ := notInt_spec hn
  have hnot : ¬ n0 + k ≤ cap := by omega
  have hbig : ¬ (((n0 + k : Nat) : Int) > IntKind.i64.max) := by
    intro this; simp [IntKind.max, IntKind.signed, IntKind.bits] at this; omega
  have hcap : ¬ (Builtin.nextslicecap (n0 + k) cap * i.bytes > 2 ^ 48) := by
    have := growslice_fits (bytes := i.bytes) hle hlim
    omega
  have h1 := hfo { w with drawn := w.drawn + 1 } rfl
  have h4 := hfu { w with drawn := w.drawn + 1 } rfl
  cases d2 <;> first
    | (simp at hb; done)
    | (simp only [List.getElem?_toArray, List.getElem?_cons_zero, List.getElem?_cons_succ, Sem.run_bind, run_under h2, run_under h3, Result.andThen_ok, run_sizeOf he, Sem.run_pure, Bool.false_eq_true, if_false, hl, hnot, Bool.not_false, if_true, Sem.run_ite, typeInfo, run_program, he]
       rw [if_neg (fun h => hbig h.1)]
       rw [if_neg hcap]
       simp only [Sem.run_pure, Result.andThen_ok, run_choose, Question.forced, Bool.false_eq_true, if_false, run_askRoom, h1, h4]
       simp [zeroValue, typeInfo, he, hz0, newRow]
       rfl)

/-! ### append, as the abstract machine sees it -/
def aAppRow (id pos sz : Nat) (xs : List (List D)) (H : List HO) (Kt : AV → List HO → Prop) : Prop :=
  ∃ es, H[id]? = some (.row pos sz es) ∧ es.length + xs.length ≤ lim ∧ Kt (.row id (pos + 1)) (H.set id (.row (pos + 1) sz (es ++ xs)))

def aAppend (m : Bool) (te : Option TInf) (a b : AV) (H : List HO) (Kt : AV → List HO → Prop) : Prop :=
  match te, elems? H b with
  | some e, some xs =>
    (∀ x ∈ xs, x.length = e.size) ∧ e.bytes ≤ 32768 ∧
    match a with
    | .d (.sl true es) => (∀ x ∈ es, x.length = e.size) ∧ (es ++ xs).length ≤ lim ∧
        if m = true then (if xs = [] then es = [] ∧ Kt (.d (.sl true [])) H else Kt (.arr H.length 0 (es ++ xs).length e.size) (H ++ [.cells ((es ++ xs).flatten.map .d)]))
        else Kt (.vec H.length (es ++ xs).length (es ++ xs)) (H ++ [.tip (es ++ xs).length e.size]) ∨ (xs = [] ∧ es = [] ∧ Kt (.d (.sl true [])) H)
    | .vec id pos es => H[id]? = some (.tip pos e.size) ∧ (es ++ xs).length ≤ lim ∧ Kt (.vec id (pos + xs.length) (es ++ xs)) (H.set id (.tip (pos + xs.length) e.size))
    | .row id pos => aAppRow id pos e.size xs H Kt
    | .arr id 0 len sz => ∃ es : List (List D), H[id]? = some (.cells (es.flatten.map .d)) ∧ es.length = len ∧ (∀ x ∈ es, x.length = sz) ∧ sz = e.size ∧ aAppRow H.length 0 sz xs (H.set id .dead ++ [.row 0 sz es]) Kt
    | _ => False
  | _, _ => False

/-- a row of pure data that is fixed, in new memory -/
theorem Inv.fixNew (hI : Inv G K w H) {w' : World} {vs : Array Value} {t : TypeId} (hw : w'.heap = w.heap.push (.cells vs t)) (ho : Out w w') (hi : Nat) :
    Inv G (K.row w.heap.size 0 hi vs) w' H ∧ Post G.length G (tipsOf H) K w G (tipsOf H) (K.row w.heap.size 0 hi vs) w' := by
  have hkn : ∀ o, K w.heap.size o = none := fun o => by
    cases hk : K w.heap.size o with
    | none => rfl
    | some v => have := hI.k_lt hk; omega
  have hkl : Kle K (K.row w.heap.size 0 hi vs) := Kle.row fun o _ _ => hkn o
  refine ⟨⟨?_, hI.glob.mono hkl, hI.len, ?_, hI.apart, hI.walks⟩, ⟨Nat.le_refl _, Evo.refl _ _ _, hkl, ?_, fun b hb => .inl hb, by rw [hw]; simp, fun b hb _ => heap_push_lt hw hb, ho.os, ho.out, ho.tape⟩⟩
  · intro b o v hk
    by_cases e : b = w.heap.size
    · subst e
      cases hk0 : K w.heap.size o with
      | some u => rw [hkn] at hk0; cases hk0
      | none =>
        obtain ⟨_, h1, h2⟩ := Kmem.row_new hk hk0
        rw [Kmem.row_at h1 h2] at hk
        rw [cell_of (heap_push_eq hw)]; exact hk
    · have hk' : K b o = some v := by
        unfold Kmem.row at hk
        rw [if_neg (fun h => e h.1)] at hk; exact hk
      rw [cell_same (heap_push_lt hw (hI.k_lt hk'))]
      exact hI.agree b o v hk'
  · intro i x y hx hy
    refine (hI.obj i x y hx hy).conv (fun b hb => heap_push_lt hw (hI.lt_of_block ⟨i, y, hy, hb⟩)) (fun b hb p hn => ?_) (fun a v r => r.evo hkl (Evo.refl _ _ _)) (fun j b bs h => ⟨bs, h⟩)
    unfold Kmem.row
    have := hI.lt_of_block ⟨i, y, hy, hb⟩
    rw [if_neg (by omega)]; exact hn
  · intro b o v h1 h2
    obtain ⟨rfl, _⟩ := Kmem.row_new h1 h2
    exact .inl (Nat.le_refl _)

/-- a fixed row reads as its list -/
theorem RelD.of_row {es : List (List D)} {sz : Nat} {vs : Array Value} {b : Nat} (hu : ∀ e ∈ es, e.length = sz) (hr : RelAs G T K (es.flatten.map .d) (vs.toList.take (es.length * sz))) {K' : Kmem} (hk : Kle K K')
    (hkv : ∀ o, o < es.length * sz → K' b o = vs[o]?) {c : Bool} {cap : Nat} (hcap : es.length ≤ cap) (hc : c = true → cap = es.length) (hl : es.length ≤ lim) :
    RelD K' (.sl c es) (.slice (some ⟨b, 0, none⟩) es.length cap) := by
  simp only [RelD]
  refine ⟨_, _, _, rfl, rfl, hcap, hc, hl, fun e => (by cases e), fun ad e => ?_⟩
  cases e
  refine ⟨fun _ => rfl, ⟨sz, hu⟩, RelEs.of_get fun i c' hc' => ?_⟩
  obtain ⟨v, h1, h2⟩ := hr.d_get hc'
  have hi : i < es.length * sz := by
    have := (List.getElem?_eq_some_iff.1 hc').1
    rwa [flatten_length hu] at this
  rw [List.getElem?_take, if_pos hi] at h1
  exact ⟨v, by rw [Nat.zero_add, hkv i hi]; simpa using h1, RelD.mono hk _ _ h2⟩

end Go.Proofs.YthhmioodienlmaaGreatDoor

/- The abstract machine, part 9b: rows that change (append to a row of one's own whose elements may be moved). -/
namespace Go.Proofs.YthhmioodienlmaaGreatDoor
open Go

variable {P : Program} {G : List GI} {T : Tips} {K : Kmem} {w : World} {H H' : List HO}

/-- to know less, of the same world; objects from N on may be forgotten -/
def Weak (N : Nat) (ts : List AV) (H : List HO) (ts' : List AV) (H' : List HO) : Prop :=
  ∀ (G : List GI) (K : Kmem) (w : World) (vs : List Value), Inv G K w H → RelAs G (tipsOf H) K ts vs → N ≤ G.length →
    ∃ G' K', Inv G' K' w H' ∧ RelAs G' (tipsOf H') K' ts' vs ∧ Post N G (tipsOf H) K w G' (tipsOf H') K' w

theorem Weak.refl {N : Nat} {ts : List AV} {H : List HO} : Weak N ts H ts H := fun G K _ _ hI hr hn => ⟨G, K, hI, hr, Post.refl hn⟩

theorem Weak.trans {N : Nat} {ts ts' ts'' : List AV} {H H' H'' : List HO} (h : Weak N ts H ts' H') (k : Weak N ts' H' ts'' H'') : Weak N ts H ts'' H'' := fun G K w vs hI hr hn => by
  obtain ⟨G', K', h1, h2, h3⟩ := h G K w vs hI hr hn
  obtain ⟨G'', K'', k1, k2, k3⟩ := k G' K' w vs h1 h2 h3.len
  exact ⟨G'', K'', k1, k2, h3.trans k3⟩

/-- a row of one's own becomes one that may grow -/
theorem Weak.arrRow {N : Nat} {ts : List AV} {t id len sz : Nat} {es : List (List D)} (ht : ts[t]? = some (.arr id 0 len sz)) (hH : H[id]? = some (.cells (es.flatten.map .d))) (hl : es.length = len) (hu : ∀ e ∈ es, e.length = sz) :
    Weak N ts H (ts.set t (.row H.length 0)) (H.set id .dead ++ [.row 0 sz es]) := fun G K w vs hI hr hn => by
  obtain ⟨b, n, ws, tt, fr, g1, g2, g3, g6, g7, g4, g5⟩ := hI.cells hH
  have hil : id < G.length := (List.getElem?_eq_some_iff.1 g1).1
  have hil' : id < H.length := (List.getElem?_eq_some_iff.1 hH).1
  obtain ⟨v, hv, rv⟩ := hr.get ht
  obtain ⟨cap, hvv, hcap⟩ := rv.arr_cells g1
  simp only [RelA] at rv
  obtain ⟨g', hg', _, rv⟩ := rv
  rw [g1] at hg'; cases hg'
  rcases rv with rv | ⟨b', n', cap', rv, hv', c1, c2, c3⟩
  · cases rv
  · cases rv
    subst hv'
    obtain ⟨j1, j2⟩ := hI.change (w' := w) (K' := K) id (g' := .dead) (o' := .dead) g1 hH (Nat.le_refl _) (fun _ _ _ => rfl) ⟨rfl, rfl, rfl⟩ (fun x hx => by simp [GI.blocks] at hx) (Kle.refl K)
      (fun b p v g1 g2 => by rw [g1] at g2; cases g2) hI.agree (.inr rfl) (by simp only [ObjRel]) (hI.walks_set g1 hH (fun _ _ _ _ _ e => by cases e) (fun _ _ e => by cases e))
    have hnb : ¬ inB (G.set id .dead) b := by
      rintro ⟨i, g, hg, hb⟩
      by_cases e : id = i
      · subst e; rw [List.getElem?_set_self hil] at hg; cases hg; simp [GI.blocks] at hb
      · rw [List.getElem?_set_ne e] at hg
        exact e (hI.apart id i _ _ b g1 hg (by simp [GI.blocks]) hb)
    have hfl := flatten_len hu
    obtain ⟨k1, k2⟩ := j1.adopt (.row 0 sz es) (.row (some (b, cap'))) (fun x hx => by simp [GI.blocks] at hx; subst hx; exact hnb) (by
      simp only [ObjRel]
      refine ⟨⟨ws, tt, fr, g2, g3, by omega, by omega, hu, ?_⟩, by omega, g5⟩
      have := g4
      rw [List.length_map, hfl] at this
      exact RelAs.ofD this) (fun m ck es todo cur e => by cases e) (fun ck es e => by cases e)
    refine ⟨_, _, k1, ?_, ?_⟩
    · have hset := (RelAs.evo (Kle.refl K) k2 (RelAs.evo j2.kle j2.evo hr)).set t (x := .row H.length 0) (y := .slice (some ⟨b, 0, none⟩) len cap') (by
        simp only [RelA]
        refine ⟨.row (some (b, cap')), by rw [← hI.len]; simp, rfl, .inr ⟨0, es.length, some (b, cap'), by simp [tipsOf], rfl, Nat.le_refl _, fun _ => .inr ⟨b, cap', rfl, by rw [hl]⟩⟩⟩)
      rwa [list_set_same hv] at hset
    · refine ⟨by simp; omega, ((j2.evo.trans (fun i hi g hg => k2 i (by simpa using hi) g hg))).less hn, Kle.refl _, (fun b p v e1 e2 => by rw [e1] at e2; cases e2), ?_, Nat.le_refl _, fun _ _ _ => rfl, rfl, rfl, rfl⟩
      rintro x ⟨i, g, hg, hb⟩
      rcases Nat.lt_or_ge i (G.set id .dead).length with hi | hi
      · rw [List.getElem?_append_left hi] at hg
        exact j2.gnew x ⟨i, g, hg, hb⟩
      · rw [List.getElem?_append_right hi] at hg
        cases hk : i - (G.set id GI.dead).length with
        | zero =>
          rw [hk] at hg; simp at hg; subst hg
          simp [GI.blocks] at hb; subst hb
          exact .inl ⟨id, _, g1, by simp [GI.blocks]⟩
        | succ k => rw [hk] at hg; simp at hg

theorem rowAppend_sound (hI : Inv G K w H) {t t2 ty e : TypeId} {i : TypeInfo} {z : Value} (h2 : P.underlying t = some (.slice e)) (e1 : P.info? e = some i) (e3 : i.zero = some z) (hzs : z.cells.size = i.size) (hn : notInt P t2 = true)
    {id pos : Nat} {es xs : List (List D)} {v u : Value} (hH : H[id]? = some (.row pos i.size es)) (ha : RelA G (tipsOf H) K (.row id pos) v)
    (hlen : ∀ w', (Builtin.lenOf u).run P w' = .ok xs.length w') {us : Array Value} (hus : us.size = xs.length * i.size) (rus : RelAs G (tipsOf H) K (xs.flatten.map .d) us.toList) (hone : ∀ u ∈ us.toList, u.oneCell' = true)
    (hfc : ∀ w' : World, w'.heap = w.heap → (Builtin.firstCells i.size xs.length u).run P w' = .ok us w') (hux : ∀ x ∈ xs, x.length = i.size) (hby : i.bytes ≤ 32768) (hlim : es.length + xs.length ≤ lim) :
    ∃ y w' G', (Builtin.append_ #[t, t2] ty #[v, u]).run P w = .ok y w' ∧ RelA G' (tipsOf (H.set id (.row (pos + 1) i.size (es ++ xs)))) K (.row id (pos + 1)) y ∧
      Inv G' K w' (H.set id (.row (pos + 1) i.size (es ++ xs))) ∧ Post G.length G (tipsOf H) K w G' (tipsOf (H.set id (.row (pos + 1) i.size (es ++ xs)))) K w' := by
  obtain ⟨w0, hG, hobj, hT⟩ := hI.row hH
  obtain ⟨_, hat⟩ := ha.row_at hI hH hG
  have hil : id < G.length := (List.getElem?_eq_some_iff.1 hG).1
  have hil' : id < H.length := (List.getElem?_eq_some_iff.1 hH).1
  have hT' : tipsOf (H.set id (.row (pos + 1) i.size (es ++ xs))) id = some (pos + 1, es.length + xs.length) := by
    unfold tipsOf; rw [List.getElem?_set_self hil']; simp
  have hev : ∀ g', (∃ w', g' = .row w') → evo1 (.row w0) (tipsOf H id) g' (tipsOf (H.set id (.row (pos + 1) i.size (es ++ xs))) id) := by
    rintro g' ⟨w', rfl⟩
    simp only [evo1]
    refine .inr ⟨w', rfl, fun n l hh => ?_⟩
    rw [hT] at hh; cases hh
    exact ⟨_, _, hT', by omega, fun hh => by omega⟩
  have hwk : ∀ g', _ := fun g' => hI.walks_set (g' := g') (o' := .row (pos + 1) i.size (es ++ xs)) hG hH (by intro m ck es todo cur e; cases e) (by intro ck es e; cases e)
  have hag : ∀ {w' : World}, (∀ b, b < w.heap.size → b ∉ (GI.row w0).blocks → w'.heap[b]? = w.heap[b]?) → ∀ b o x, K b o = some x → w'.cell? ⟨b, o, none⟩ = some x := fun {w'} hs b o x hk => by
    have hnb : b ∉ (GI.row w0).blocks := fun hb => by
      cases w0 with
      | none => simp [GI.blocks] at hb
      | some y =>
        obtain ⟨b0, cap⟩ := y
        simp [GI.blocks] at hb; subst hb
        simp only [ObjRel] at hobj
        rw [hobj.2.2 o] at hk; cases hk
    rw [cell_same (hs b (hI.k_lt hk) hnb)]
    exact hI.agree _ _ _ hk
  have fin : ∀ {y : Value} {w' : World} {g' : GI} {wr : Option (Nat × Nat)}, g' = .row wr → y.oneCell' = true → RowAt (pos + 1) (es.length + xs.length) wr (pos + 1) y →
      RelA (G.set id g') (tipsOf (H.set id (.row (pos + 1) i.size (es ++ xs)))) K (.row id (pos + 1)) y := fun {y w' g' wr} hg' ho hr => by
    simp only [RelA]
    exact ⟨g', by rw [List.getElem?_set_self hil], ho, .inr ⟨_, _, wr, hT', hg', Nat.le_refl _, hr⟩⟩
  have hall : ∀ x ∈ es ++ xs, (∀ x ∈ es, x.length = i.size) → x.length = i.size := by
    intro x hx hes; simp only [List.mem_append] at hx; rcases hx with hx | hx
    · exact hes x hx
    · exact hux x hx
  rcases hat rfl with ⟨rfl, hl0, a0, rfl⟩ | ⟨b0, cap, rfl, rfl⟩
  · -- nothing yet
    have hes0 : es = [] := List.eq_nil_of_length_eq_zero hl0
    subst hes0
    have hlim : xs.length ≤ 4294967296 := by simpa using hlim
    by_cases hx0 : xs = []
    · subst hx0
      have hus0 : us = #[] := by simp at hus; exact hus
      subst hus0
      have hrun := run_append_fits (P := P) (w := w) (t2 := t2) (ty := ty) h2 e1 hn (base := a0) (n0 := 0) (cap := 0) (k := 0) (u := u) (us := #[]) (by simpa using hlen)
        (by simpa using hfc w rfl) (by omega) (w' := w) (fun a _ => by simp [storeCells]) (fun _ => rfl)
      obtain ⟨k1, k2⟩ := hI.change (w' := w) (K' := K) id (g' := .row none) (o' := .row (pos + 1) i.size ([] ++ [])) hG hH (Nat.le_refl _) (fun _ _ _ => rfl) ⟨rfl, rfl, rfl⟩ (by simp [GI.blocks]) (Kle.refl K)
        (fun b p v g1 g2 => by rw [g1] at g2; cases g2) hI.agree (hev _ ⟨_, rfl⟩) (by simp [ObjRel]) (hwk _)
      exact ⟨_, w, _, hrun, fin (w' := w) rfl rfl (fun _ => .inl ⟨rfl, rfl, a0, rfl⟩), k1, k2⟩
    · have hk0 : 0 < xs.length := by cases xs with | nil => exact absurd rfl hx0 | cons _ _ => simp
      obtain ⟨c, hc, hrun⟩ := run_append_grows (P := P) (w := w) (t2 := t2) (ty := ty) h2 e1 e3 hn (base := a0) (n0 := 0) (cap := 0) (k := xs.length) (u := u) (os := #[]) (us := us) hlen
        (fun w' _ => by cases a0 <;> simp [Builtin.firstCells, loadCells, loadCellsFrom]) hfc (by omega) (by
          have : (0 + xs.length) * i.bytes ≤ 4294967296 * 32768 := Nat.mul_le_mul (by omega) hby
          omega) (by omega)
      simp only [Nat.zero_add] at hrun hc
      have hpush : ({ w with heap := w.heap.push (.cells (#[] ++ us ++ Builtin.zeroCells z.cells (c - xs.length)) e), drawn := w.drawn + 1 } : World).heap = w.heap.push (.cells (#[] ++ us ++ Builtin.zeroCells z.cells (c - xs.length)) e) := rfl
      have hvsz : (#[] ++ us ++ Builtin.zeroCells z.cells (c - xs.length)).size = c * i.size := by
        simp only [Array.size_append, hus, zeroCells_size, hzs, List.size_toArray, List.length_nil, Nat.zero_add]
        rw [← Nat.add_mul]; congr 1; omega
      have htk : (#[] ++ us ++ Builtin.zeroCells z.cells (c - xs.length)).toList.take (xs.length * i.size) = us.toList := by
        rw [← hus]; simp
      generalize hV : #[] ++ us ++ Builtin.zeroCells z.cells (c - xs.length) = V at *
      obtain ⟨k1, k2⟩ := hI.change (w' := { w with heap := w.heap.push (.cells V e), drawn := w.drawn + 1 }) (K' := K) id (g' := .row (some (w.heap.size, c))) (o' := .row (pos + 1) i.size ([] ++ xs)) hG hH (by simp)
        (fun b' hb' _ => heap_push_lt hpush hb') ⟨rfl, rfl, rfl⟩ (fun b' hb' => .inr (by simp [GI.blocks] at hb'; omega)) (Kle.refl K) (fun b p v g1 g2 => by rw [g1] at g2; cases g2)
        (hag fun b' hb' _ => heap_push_lt hpush hb') (hev _ ⟨_, rfl⟩) (by
          simp only [ObjRel, List.nil_append]
          refine ⟨⟨V, e, (0, 0), heap_push_eq hpush, fun o _ => fOk_zero o, by rw [hvsz]; exact Nat.le_refl _, hc, hux, ?_⟩, by simpa using hlim, fun o => ?_⟩
          · rw [htk]
            have hlast : RelAs G (tipsOf H) K (xs.flatten.map .d) us.toList := rus
            exact RelAs.ofD hlast
          · cases hk : K w.heap.size o with
            | none => rfl
            | some v => have := hI.k_lt hk; omega) (hwk _)
      exact ⟨_, _, _, hrun, fin (w' := w) rfl rfl (fun _ => .inr ⟨_, c, rfl, by simp⟩), k1, k2⟩
  · simp only [ObjRel] at hobj
    obtain ⟨⟨vs, tt, fr, b1, b2, b3, b4, b5, b6⟩, b7, b8⟩ := hobj
    have hb0 : b0 < w.heap.size := (Array.getElem?_eq_some_iff.1 b1).1
    have hesz : es.length * i.size ≤ cap * i.size := Nat.mul_le_mul_right _ b4
    by_cases hroom : es.length + xs.length ≤ cap
    · have hxsp : (es.length + xs.length) * i.size ≤ cap * i.size := Nat.mul_le_mul_right _ hroom
      rw [Nat.add_mul] at hxsp
      have hstore : (storeCells (⟨b0, es.length * i.size, none⟩ : Addr) us.toList).run P w = .ok () (w.setCells b0 (es.length * i.size) us.toList) := by
        have := run_storeCells_cells (P := P) b0 (es.length * i.size) us.toList 0 w
          (fun j hj => by
            rw [cell_of b1, Array.getElem?_eq_getElem (by simp [hus] at hj; omega)]; rfl)
          (fun j hj => by
            unfold World.frozen?
            simp only [b1]
            have g1 := b2 (es.length * i.size + 0 + j) (by simp [hus] at hj; omega)
            unfold fOk at g1
            simp only [Bool.and_eq_false_imp, decide_eq_true_eq, decide_eq_false_iff_not]
            intro g2 g3
            exact g1 ⟨g2, g3⟩) hone
        simpa using this
      have hrun := run_append_fits (P := P) (w := w) (t2 := t2) (ty := ty) h2 e1 hn (base := some ⟨b0, 0, none⟩) (n0 := es.length) (cap := cap) (k := xs.length) (u := u) (us := us) hlen
        (hfc w rfl) hroom (w' := w.setCells b0 (es.length * i.size) us.toList) (fun a ha => by cases ha; rw [Addr.add_mid]; simpa using hstore) (fun h => by cases h)
      obtain ⟨c1, c2, c3, c4⟩ := setCells_heap us.toList w b0 (es.length * i.size) vs tt fr b1
      generalize hV : asplice vs (es.length * i.size) us.toList = V at *
      have hVs : V.size = vs.size := by rw [← hV, asplice_size]
      have hVl : V.toList = vs.toList.take (es.length * i.size) ++ us.toList ++ vs.toList.drop (es.length * i.size + us.toList.length) := by
        rw [← hV, asplice_toList _ _ _ (by simp [hus]; omega)]
      have hs : ∀ b, b < w.heap.size → b ∉ (GI.row (some (b0, cap))).blocks → (w.setCells b0 (es.length * i.size) us.toList).heap[b]? = w.heap[b]? := fun b' _ hn' => c2 b' (by simpa [GI.blocks] using hn')
      obtain ⟨k1, k2⟩ := hI.change (w' := w.setCells b0 (es.length * i.size) us.toList) (K' := K) id (g' := .row (some (b0, cap))) (o' := .row (pos + 1) i.size (es ++ xs)) hG hH (by omega) hs c4
        (by simp [GI.blocks]) (Kle.refl K) (fun b p v g1 g2 => by rw [g1] at g2; cases g2) (hag hs) (hev _ ⟨_, rfl⟩) (by
          simp only [ObjRel]
          refine ⟨⟨V, tt, fr, c1, fun o ho => b2 o (by omega), by omega, by simp; omega, fun x hx => hall x hx b5, ?_⟩, by simpa using hlim, b8⟩
          have htk : V.toList.take ((es ++ xs).length * i.size) = vs.toList.take (es.length * i.size) ++ us.toList := by
            rw [hVl, List.length_append, Nat.add_mul, ← hus]
            have : es.length * i.size + us.size = (vs.toList.take (es.length * i.size) ++ us.toList).length := by
              simp; omega
            rw [this, List.take_left]
          rw [htk, List.flatten_append, List.map_append]
          exact RelAs.append (RelAs.ofD b6) (RelAs.ofD rus)) (hwk _)
      exact ⟨_, _, _, hrun, fin (w' := w) rfl rfl (fun _ => .inr ⟨_, cap, rfl, rfl⟩), k1, k2⟩
    · have hos : ∀ w' : World, w'.heap = w.heap → (Builtin.firstCells i.size es.length (.slice (some ⟨b0, 0, none⟩) es.length cap)).run P w' = .ok (vs.toList.take (es.length * i.size)).toArray w' := fun w' hw' =>
        run_firstCells_some (P := P) w' i.size es.length ⟨b0, 0, none⟩ es.length cap (vs.toList.take (es.length * i.size)) (by simp; omega) (fun j v hv => by
          rw [Addr.add_mid, cell_same (w := w) (w' := w') (by rw [hw']), cell_of b1]
          rw [List.getElem?_take] at hv
          split at hv
          · simpa using hv
          · cases hv)
      obtain ⟨c, hc, hrun⟩ := run_append_grows (P := P) (w := w) (t2 := t2) (ty := ty) h2 e1 e3 hn (base := some ⟨b0, 0, none⟩) (n0 := es.length) (cap := cap) (k := xs.length) (u := u) (os := (vs.toList.take (es.length * i.size)).toArray) (us := us) hlen
        hos hfc (by omega) (by
          have : (es.length + xs.length) * i.bytes ≤ 4294967296 * 32768 := Nat.mul_le_mul hlim hby
          omega) hlim
      have hpush : ({ w with heap := w.heap.push (.cells ((vs.toList.take (es.length * i.size)).toArray ++ us ++ Builtin.zeroCells z.cells (c - (es.length + xs.length))) e), drawn := w.drawn + 1 } : World).heap = w.heap.push (.cells ((vs.toList.take (es.length * i.size)).toArray ++ us ++ Builtin.zeroCells z.cells (c - (es.length + xs.length))) e) := rfl
      have hvsz : ((vs.toList.take (es.length * i.size)).toArray ++ us ++ Builtin.zeroCells z.cells (c - (es.length + xs.length))).size = c * i.size := by
        simp only [Array.size_append, hus, zeroCells_size, hzs, List.size_toArray, List.length_take, Array.length_toList]
        rw [Nat.min_eq_left (by omega), ← Nat.add_mul, ← Nat.add_mul]; congr 1; omega
      have htk : ((vs.toList.take (es.length * i.size)).toArray ++ us ++ Builtin.zeroCells z.cells (c - (es.length + xs.length))).toList.take ((es ++ xs).length * i.size) = vs.toList.take (es.length * i.size) ++ us.toList := by
        have : (es ++ xs).length * i.size = (vs.toList.take (es.length * i.size) ++ us.toList).length := by
          simp [hus, Nat.add_mul]; omega
        rw [this]
        simp only [Array.toList_append, List.take_left]
      generalize hV : (vs.toList.take (es.length * i.size)).toArray ++ us ++ Builtin.zeroCells z.cells (c - (es.length + xs.length)) = V at *
      obtain ⟨k1, k2⟩ := hI.change (w' := { w with heap := w.heap.push (.cells V e), drawn := w.drawn + 1 }) (K' := K) id (g' := .row (some (w.heap.size, c))) (o' := .row (pos + 1) i.size (es ++ xs)) hG hH (by simp)
        (fun b' hb' _ => heap_push_lt hpush hb') ⟨rfl, rfl, rfl⟩ (fun b' hb' => .inr (by simp [GI.blocks] at hb'; omega)) (Kle.refl K) (fun b p v g1 g2 => by rw [g1] at g2; cases g2)
        (hag fun b' hb' _ => heap_push_lt hpush hb') (hev _ ⟨_, rfl⟩) (by
          simp only [ObjRel]
          refine ⟨⟨V, e, (0, 0), heap_push_eq hpush, fun o _ => fOk_zero o, by rw [hvsz]; exact Nat.le_refl _, by simp; exact hc, fun x hx => hall x hx b5, ?_⟩, by simpa using hlim, fun o => ?_⟩
          · rw [htk, List.flatten_append, List.map_append]
            exact RelAs.append (RelAs.ofD b6) (RelAs.ofD rus)
          · cases hk : K w.heap.size o with
            | none => rfl
            | some v => have := hI.k_lt hk; omega) (hwk _)
      exact ⟨_, _, _, hrun, fin (w' := w) rfl rfl (fun _ => .inr ⟨_, c, rfl, rfl⟩), k1, k2⟩

end Go.Proofs.YthhmioodienlmaaGreatDoor

/- The abstract machine, part 10: append is sound. -/
namespace Go.Proofs.YthhmioodienlmaaGreatDoor
open Go

variable {P : Program} {G : List GI} {T : Tips} {K : Kmem} {w : World} {H H' : List HO}

theorem Inv.tip (hI : Inv G K w H) {id n sz : Nat} (h : H[id]? = some (.tip n sz)) : ∃ w0, G[id]? = some (.tip w0) ∧ ObjRel G (tipsOf H) K w (.tip n sz) (.tip w0) ∧ tipsOf H id = some (n, sz) := by
  have hi : id < G.length := by rw [hI.len]; exact (List.getElem?_eq_some_iff.1 h).1
  have ho := hI.obj id _ G[id] h (List.getElem?_eq_getElem hi)
  cases e : G[id] <;> rw [e] at ho <;> simp only [ObjRel] at ho
  rename_i w0
  exact ⟨w0, by rw [List.getElem?_eq_getElem hi, e], by cases w0 <;> simp_all [ObjRel], by simp [tipsOf, h]⟩

theorem take_two {α : Type} (a b c : List α) : (a ++ b ++ c).take (a.length + b.length) = a ++ b := by
  rw [← List.length_append, List.take_left]

theorem aAppend_sound (hI : Inv G K w H) {t t2 ty : TypeId} {ti : TInf} (ht : tinfo P t = some ti) (hsl : ti.isSl = true) (hn : notInt P t2 = true) {m : Bool} {a b : AV} {v u : Value}
    (ha : RelA G (tipsOf H) K a v) (hb : RelA G (tipsOf H) K b u) {Kt : AV → List HO → Prop} (h : aAppend m (tinfo P ti.elem) a b H Kt) :
    ∃ y w' G' K' x H', (Builtin.append_ #[t, t2] ty #[v, u]).run P w = .ok y w' ∧ Kt x H' ∧ RelA G' (tipsOf H') K' x y ∧ Inv G' K' w' H' ∧ Post G.length G (tipsOf H) K w G' (tipsOf H') K' w' := by
  unfold aAppend at h
  cases hte : tinfo P ti.elem with
  | none => simp [hte] at h
  | some te =>
    cases hxs : elems? H b with
    | none => simp [hte, hxs] at h
    | some xs =>
      rw [hte, hxs] at h
      obtain ⟨hux, hby, h⟩ := h
      obtain ⟨ii, d, z0, h1, h2, h3, h4, rfl⟩ := tinfo_spec ht
      have hd : ∃ e, d = .slice e := by cases d <;> simp [mkTI] at hsl; exact ⟨_, rfl⟩
      obtain ⟨e, rfl⟩ := hd
      obtain ⟨i, de, z, e1, e2, e3, e4, rfl⟩ := tinfo_spec hte
      simp only [mkTI] at e1 e2 hux hby h
      have hzs : z.cells.size = i.size := e4.2.2
      obtain ⟨hlen, us, hus, rus, hone, hfc⟩ := elems_run (P := P) hI hb hxs hux
      have hag : ∀ w' : World, w'.heap = w.heap → ∀ b o x, K b o = some x → w'.cell? ⟨b, o, none⟩ = some x := fun w' hw' b o x hk => by
        exact (cell_same (w := w) (w' := w') (by rw [hw'])).trans (hI.agree b o x hk)
      split at h
      · -- a slice that is full
        rename_i es
        obtain ⟨hue, hlim, h⟩ := h
        simp only [RelA] at ha
        have ha0 := ha
        obtain ⟨_, os, hos, ros, honeo, hfo⟩ := elems_run (P := P) (a := .d (.sl true es)) hI (by simpa only [RelA] using ha) rfl hue
        simp only [RelD] at ha
        obtain ⟨base, n, cap, rfl, rfl, q2, q3, q4, q5, q6⟩ := ha
        obtain rfl := q3 (by trivial)
        by_cases hx0 : xs = []
        · subst hx0
          have hus0 : us = #[] := by simp at hus; exact hus
          subst hus0
          have hrun := run_append_fits (P := P) (w := w) (t2 := t2) (ty := ty) h2 e1 hn (base := base) (n0 := es.length) (cap := es.length) (k := 0) (u := u) (us := #[]) (by simpa using hlen)
            (by simpa using hfc w rfl) (by omega) (w' := w) (fun a _ => by simp [storeCells]) (fun _ => rfl)
          simp only [Nat.add_zero] at hrun
          cases m with
          | true =>
            simp only [if_true] at h
            obtain ⟨rfl, h⟩ := h
            exact ⟨_, w, G, K, _, H, hrun, h, by simp only [RelA]; exact ha0, hI, Post.refl (Nat.le_refl _)⟩
          | false =>
            simp only [Bool.false_eq_true, if_false, List.append_nil] at h
            rcases h with h | ⟨_, rfl, h⟩
            case inr => exact ⟨_, w, G, K, _, H, hrun, h, by simp only [RelA]; exact ha0, hI, Post.refl (Nat.le_refl _)⟩
            obtain ⟨k1, k2⟩ := hI.ghost es.length i.size
            refine ⟨_, w, _, K, _, _, hrun, h, ?_, k1, k2⟩
            simp only [RelA]
            refine ⟨?_, .tip none, by rw [← hI.len]; simp, .inr ⟨es.length, i.size, none, by simp [tipsOf], rfl, Nat.le_refl _, hue, fun _ => ⟨base, es.length, rfl, .inl rfl⟩⟩⟩
            simp only [RelD]
            exact ⟨base, _, _, rfl, rfl, Nat.le_refl _, (fun h => by cases h), q4, q5, q6⟩
        · have hk0 : 0 < xs.length := by cases xs with | nil => exact absurd rfl hx0 | cons _ _ => simp
          simp only [List.length_append] at hlim h
          obtain ⟨c, hc, hrun⟩ := run_append_grows (P := P) (w := w) (t2 := t2) (ty := ty) h2 e1 e3 hn (base := base) (n0 := es.length) (cap := es.length) (k := xs.length) (u := u) (os := os) (us := us) hlen
            (fun w' hw' => hfo w' hw') (fun w' hw' => hfc w' hw') (by omega) (by
              have : (es.length + xs.length) * i.bytes ≤ 4294967296 * 32768 := Nat.mul_le_mul (by omega) hby
              omega) (by omega)
          have hfl : (os.toList ++ us.toList).length = (es ++ xs).length * i.size := by simp [hos, hus, Nat.add_mul]
          have hruss : RelAs G (tipsOf H) K ((es ++ xs).flatten.map .d) (os.toList ++ us.toList) := by
            rw [List.flatten_append, List.map_append]; exact ros.append rus
          have htk : (os ++ us ++ Builtin.zeroCells z.cells (c - (es.length + xs.length))).toList.take ((es ++ xs).length * i.size) = os.toList ++ us.toList := by
            simp only [Array.toList_append]
            rw [← hfl, List.take_left]
          have hall : ∀ x ∈ es ++ xs, x.length = i.size := by
            intro x hx; simp only [List.mem_append] at hx; rcases hx with hx | hx
            · exact hue x hx
            · exact hux x hx
          have hvsz : (os ++ us ++ Builtin.zeroCells z.cells (c - (es.length + xs.length))).size = c * i.size := by
            simp only [Array.size_append, hos, hus, zeroCells_size, hzs]
            rw [← Nat.add_mul, ← Nat.add_mul]; congr 1; omega
          cases m with
          | true =>
            simp only [if_true, hx0, if_false] at h
            have hml : ((es ++ xs).flatten.map AV.d).length = (es ++ xs).length * i.size := by rw [List.length_map, flatten_length hall]
            obtain ⟨k1, k2, k3⟩ := hI.newCells (w' := { w with heap := w.heap.push (.cells (os ++ us ++ Builtin.zeroCells z.cells (c - (es.length + xs.length))) e), drawn := w.drawn + 1 })
              (vs := os ++ us ++ Builtin.zeroCells z.cells (c - (es.length + xs.length))) (t := e) rfl ⟨rfl, rfl, rfl⟩ (cs := (es ++ xs).flatten.map .d)
              (by rw [hml, hvsz]; exact Nat.mul_le_mul_right _ (by simp; omega)) (by rw [hml, htk]; exact hruss)
            refine ⟨_, _, _, K, _, _, hrun, h, ?_, k1, k2⟩
            simp only [RelA]
            refine ⟨.cells w.heap.size (os ++ us ++ Builtin.zeroCells z.cells (c - (es.length + xs.length))).size, by rw [← hI.len]; simp, rfl, .inr ⟨_, _, c, rfl, rfl, hc, hlim, ?_⟩⟩
            rw [hvsz]; simp
          | false =>
            simp only [Bool.false_eq_true, if_false] at h
            rcases h with h | ⟨hx, _⟩
            case inr => exact absurd hx hx0
            generalize hV : os ++ us ++ Builtin.zeroCells z.cells (c - (es.length + xs.length)) = V at *
            have hkn : ∀ o, K w.heap.size o = none := fun o => by
              cases hk : K w.heap.size o with
              | none => rfl
              | some v => have := hI.k_lt hk; omega
            have hkl : Kle K (K.row w.heap.size 0 ((es ++ xs).length * i.size) V) := Kle.row fun o _ _ => hkn o
            have hpush : ({ w with heap := w.heap.push (.cells V e), drawn := w.drawn + 1 } : World).heap = w.heap.push (.cells V e) := rfl
            obtain ⟨k1, k2⟩ := hI.newK (w' := { w with heap := w.heap.push (.cells V e), drawn := w.drawn + 1 }) (K' := K.row w.heap.size 0 ((es ++ xs).length * i.size) V) hpush ⟨rfl, rfl, rfl⟩
              (.tip (es.length + xs.length) i.size) (.tip (some (w.heap.size, (es ++ xs).length * i.size, c - (es.length + xs.length)))) (by simp [GI.blocks]) hkl
              (fun b p v e1 e2 => (Kmem.row_new e1 e2).1)
              (fun b p v hk => by
                cases hk0 : K b p with
                | some u0 =>
                  have := hkl _ _ _ hk0
                  rw [hk] at this; cases this
                  rw [cell_same (heap_push_lt hpush (hI.k_lt hk0))]; exact hI.agree _ _ _ hk0
                | none =>
                  obtain ⟨rfl, g1, g2⟩ := Kmem.row_new hk hk0
                  rw [Kmem.row_at g1 g2] at hk
                  rw [cell_of (heap_push_eq hpush)]; exact hk)
              (by
                simp only [ObjRel]
                refine ⟨⟨V, e, (0, 0), heap_push_eq hpush, fun o _ => fOk_zero o, ?_⟩, fun o ho => ?_⟩
                · rw [hvsz, ← Nat.add_mul]; exact Nat.mul_le_mul_right _ (by simp; omega)
                · unfold Kmem.row; rw [if_neg (by omega)]; exact hkn o)
              (by intro m ck es todo cur it snap ck' es' b bs e; cases e)
            refine ⟨_, _, _, _, _, _, hrun, h, ?_, k1, k2⟩
            simp only [RelA]
            refine ⟨?_, .tip (some (w.heap.size, (es ++ xs).length * i.size, c - (es.length + xs.length))), by rw [← hI.len]; simp, .inr ⟨es.length + xs.length, i.size, _, by simp [tipsOf], rfl, Nat.le_refl _, hall, fun _ => ⟨_, c, by simp, .inr ⟨w.heap.size, _, _, 0, rfl, rfl, by simp, by simp; omega⟩⟩⟩⟩
            have hrd := RelD.of_row (G := G) (T := tipsOf H) (K := K) (K' := K.row w.heap.size 0 ((es ++ xs).length * i.size) V) (vs := V) (b := w.heap.size) (es := es ++ xs) (c := false) (cap := c) hall
              (by rw [htk]; exact hruss) hkl (fun o ho => Kmem.row_at (Nat.zero_le _) ho) (by simp; omega) (fun h => by cases h) (by simp; omega)
            simpa using hrd
      · -- a slice that grows
        rename_i id pos es
        obtain ⟨hH, hlim, h⟩ := h
        have ha0 := ha
        obtain ⟨w0, hG, hobj, hT⟩ := hI.tip hH
        simp only [RelA] at ha
        obtain ⟨hrd, g, hg, ha⟩ := ha
        rw [hG] at hg; cases hg
        rcases ha with ha | ⟨n, sz, w1, hT1, hw1, hle, hue, htip⟩
        · cases ha
        · cases hw1
          rw [hT] at hT1; cases hT1
          obtain ⟨base, cap, rfl, hwhere⟩ := htip rfl
          obtain ⟨_, os, hos, ros, honeo, hfo⟩ := elems_run (P := P) (a := .vec id pos es) hI ha0 rfl hue
          simp only [RelD] at hrd
          obtain ⟨base', n', cap', hq, q1, q2, q3, q4, q5, q6⟩ := hrd
          cases hq
          simp only [List.length_append] at hlim
          have hil : id < G.length := (List.getElem?_eq_some_iff.1 hG).1
          have hil' : id < H.length := (List.getElem?_eq_some_iff.1 hH).1
          have hT' : tipsOf (H.set id (.tip (pos + xs.length) i.size)) id = some (pos + xs.length, i.size) := by
            unfold tipsOf; rw [List.getElem?_set_self hil']
          have hall : ∀ x ∈ es ++ xs, x.length = i.size := by
            intro x hx; simp only [List.mem_append] at hx; rcases hx with hx | hx
            · exact hue x hx
            · exact hux x hx
          have hruss : RelAs G (tipsOf H) K ((es ++ xs).flatten.map .d) (os.toList ++ us.toList) := by
            rw [List.flatten_append, List.map_append]; exact ros.append rus
          have hfl : (os.toList ++ us.toList).length = (es ++ xs).length * i.size := by simp [hos, hus, Nat.add_mul]
          by_cases hroom : es.length + xs.length ≤ cap
          · -- there is room
            rcases hwhere with rfl | ⟨b0, e0, sp, o, rfl, rfl, rfl, rfl⟩
            · have hx0 : xs = [] := List.eq_nil_of_length_eq_zero (by omega)
              subst hx0
              have hus0 : us = #[] := by simp at hus; exact hus
              subst hus0
              have hrun := run_append_fits (P := P) (w := w) (t2 := t2) (ty := ty) h2 e1 hn (base := base) (n0 := es.length) (cap := es.length) (k := 0) (u := u) (us := #[]) (by simpa using hlen)
                (by simpa using hfc w rfl) (by omega) (w' := w) (fun a _ => by simp [storeCells]) (fun _ => rfl)
              simp only [Nat.add_zero] at hrun
              simp only [List.length_nil, Nat.add_zero, List.append_nil] at h
              rw [list_set_same hH] at h
              exact ⟨_, w, G, K, _, H, hrun, h, ha0, hI, Post.refl (Nat.le_refl _)⟩
            · simp only [ObjRel] at hobj
              obtain ⟨⟨vs, tt, fr, b1, b2, b3⟩, b4⟩ := hobj
              have hxsp : xs.length * i.size ≤ sp * i.size := Nat.mul_le_mul_right _ (by omega)
              have hstore : (storeCells (⟨b0, o + es.length * i.size, none⟩ : Addr) us.toList).run P w = .ok () (w.setCells b0 (o + es.length * i.size) us.toList) := by
                have := run_storeCells_cells (P := P) b0 (o + es.length * i.size) us.toList 0 w
                  (fun j hj => by
                    rw [cell_of b1, Array.getElem?_eq_getElem (by simp [hus] at hj; omega)]; rfl)
                  (fun j hj => by
                    unfold World.frozen?
                    simp only [b1]
                    have g1 := b2 (o + es.length * i.size + 0 + j) (by simp [hus] at hj; omega)
                    unfold fOk at g1
                    simp only [Bool.and_eq_false_imp, decide_eq_true_eq, decide_eq_false_iff_not]
                    intro g2 g3
                    exact g1 ⟨g2, g3⟩) hone
                simpa using this
              have hrun := run_append_fits (P := P) (w := w) (t2 := t2) (ty := ty) h2 e1 hn (base := some ⟨b0, o, none⟩) (n0 := es.length) (cap := es.length + sp) (k := xs.length) (u := u) (us := us) hlen
                (hfc w rfl) hroom (w' := w.setCells b0 (o + es.length * i.size) us.toList) (fun a ha => by cases ha; rw [Addr.add_mid]; exact hstore) (fun h => by cases h)
              obtain ⟨c1, c2, c3, c4⟩ := setCells_heap us.toList w b0 (o + es.length * i.size) vs tt fr b1
              generalize hV : asplice vs (o + es.length * i.size) us.toList = V at *
              have hVs : V.size = vs.size := by rw [← hV, asplice_size]
              have hVl : V.toList = vs.toList.take (o + es.length * i.size) ++ us.toList ++ vs.toList.drop (o + es.length * i.size + us.toList.length) := by
                rw [← hV, asplice_toList _ _ _ (by simp [hus]; omega)]
              have hVget : ∀ j, j < us.size → V[o + es.length * i.size + j]? = us[j]? := fun j hj => by
                have : V.toList[o + es.length * i.size + j]? = us.toList[j]? := by
                  rw [hVl, List.append_assoc, List.getElem?_append_right (by simp; omega), List.getElem?_append_left (by simp; omega)]
                  congr 1
                  simp
                  omega
                simpa using this
              have hkl : Kle K (K.row b0 (o + es.length * i.size) (o + es.length * i.size + xs.length * i.size) V) := Kle.row fun p g1 _ => b4 p g1
              have hg' : ∀ p v, K b0 p = some v → p < o + es.length * i.size := fun p v hk => by
                by_cases hp : o + es.length * i.size ≤ p
                · rw [b4 p hp] at hk; cases hk
                · omega
              obtain ⟨k1, k2⟩ := hI.change (w' := w.setCells b0 (o + es.length * i.size) us.toList) (K' := K.row b0 (o + es.length * i.size) (o + es.length * i.size + xs.length * i.size) V) id
                (g' := .tip (some (b0, o + es.length * i.size + xs.length * i.size, sp - xs.length))) (o' := .tip (pos + xs.length) i.size) hG hH (by omega)
                (fun b' _ hn' => c2 b' (by simpa [GI.blocks] using hn')) c4 (by simp [GI.blocks]) hkl
                (fun b' p v g1 g2 => .inl (by simp [GI.blocks, (Kmem.row_new g1 g2).1]))
                (fun b' p v hk => by
                  by_cases hb' : b' = b0
                  · subst hb'
                    rw [cell_of c1]
                    cases hk0 : K b' p with
                    | none =>
                      obtain ⟨_, g1, g2⟩ := Kmem.row_new hk hk0
                      rw [Kmem.row_at g1 g2] at hk; exact hk
                    | some u0 =>
                      have g1 := hkl _ _ _ hk0
                      rw [hk] at g1; cases g1
                      have g2 := hI.agree _ _ _ hk0
                      rw [cell_of b1] at g2
                      have g3 := hg' p _ hk0
                      have g4 : p < vs.size := (Array.getElem?_eq_some_iff.1 g2).1
                      rw [← Array.getElem?_toList, hVl, List.append_assoc, List.getElem?_append_left (by simp; omega), List.getElem?_take, if_pos g3]
                      simpa using g2
                  · have hk' : K b' p = some v := by
                      unfold Kmem.row at hk
                      rw [if_neg (fun h => hb' h.1)] at hk; exact hk
                    rw [cell_same (c2 b' hb')]; exact hI.agree _ _ _ hk')
                (by
                  simp only [evo1]
                  refine .inr ⟨_, rfl, fun n' sz' hh => ?_⟩
                  rw [hT] at hh; cases hh
                  refine ⟨pos + xs.length, hT', by omega, fun hh => ?_⟩
                  have : xs.length = 0 := by omega
                  simp [this])
                (by
                  simp only [ObjRel]
                  refine ⟨⟨V, tt, fr, c1, fun p hp => b2 p (by omega), ?_⟩, fun p hp => ?_⟩
                  · rw [hVs]
                    have : (sp - xs.length) * i.size = sp * i.size - xs.length * i.size := Nat.sub_mul _ _ _
                    omega
                  · unfold Kmem.row; rw [if_neg (by omega)]; exact b4 p (by omega))
                (hI.walks_set hG hH (by intro m ck es todo cur e; cases e) (by intro ck es e; cases e))
              refine ⟨_, _, _, _, _, _, hrun, h, ?_, k1, k2⟩
              simp only [RelA]
              refine ⟨?_, _, by rw [List.getElem?_set_self hil], .inr ⟨pos + xs.length, i.size, _, hT', rfl, Nat.le_refl _, hall, fun _ => ⟨_, es.length + sp, by simp, .inr ⟨b0, _, _, o, rfl, rfl, by simp [Nat.add_mul]; omega, by simp; omega⟩⟩⟩⟩
              simp only [RelD]
              refine ⟨_, _, _, rfl, by simp, by omega, (fun h => by cases h), by omega, (fun h => by cases h), fun ad had => ?_⟩
              cases had
              refine ⟨fun _ => rfl, ⟨i.size, hall⟩, RelEs.of_get fun j c' hc' => ?_⟩
              obtain ⟨s1, s2, s3⟩ := q6 _ rfl
              simp only at s3
              rw [List.flatten_append] at hc'
              by_cases hj : j < es.flatten.length
              · rw [List.getElem?_append_left hj] at hc'
                obtain ⟨vs', l', k', r'⟩ := s3.vals (G := G) (T := tipsOf H) hue
                obtain ⟨v', g1, g2⟩ := r'.d_get hc'
                exact ⟨v', hkl _ _ _ (k' j v' g1), RelD.mono hkl _ _ g2⟩
              · rw [List.getElem?_append_right (by omega)] at hc'
                obtain ⟨v', g1, g2⟩ := rus.d_get hc'
                have hfe := flatten_length hue
                have g3 : j - es.flatten.length < us.size := by
                  have := (List.getElem?_eq_some_iff.1 g1).1
                  simpa using this
                refine ⟨v', ?_, RelD.mono hkl _ _ g2⟩
                rw [Kmem.row_at (K := K) (b := b0) (vs := V) (lo := o + es.length * i.size) (hi := o + es.length * i.size + xs.length * i.size) (o := o + j) (by omega) (by omega)]
                have g4 := hVget (j - es.flatten.length) g3
                rw [show o + es.length * i.size + (j - es.flatten.length) = o + j by omega] at g4
                rw [g4]
                simpa using g1
          · -- a new row
            have hk0 : 0 < xs.length := by omega
            obtain ⟨c, hc, hrun⟩ := run_append_grows (P := P) (w := w) (t2 := t2) (ty := ty) h2 e1 e3 hn (base := base) (n0 := es.length) (cap := cap) (k := xs.length) (u := u) (os := os) (us := us) hlen
              (fun w' hw' => hfo w' hw') (fun w' hw' => hfc w' hw') (by omega) (by
                have : (es.length + xs.length) * i.bytes ≤ 4294967296 * 32768 := Nat.mul_le_mul (by omega) hby
                omega) (by omega)
            have htk : (os ++ us ++ Builtin.zeroCells z.cells (c - (es.length + xs.length))).toList.take ((es ++ xs).length * i.size) = os.toList ++ us.toList := by
              simp only [Array.toList_append]
              rw [← hfl, List.take_left]
            have hvsz : (os ++ us ++ Builtin.zeroCells z.cells (c - (es.length + xs.length))).size = c * i.size := by
              simp only [Array.size_append, hos, hus, zeroCells_size, hzs]
              rw [← Nat.add_mul, ← Nat.add_mul]; congr 1; omega
            generalize hV : os ++ us ++ Builtin.zeroCells z.cells (c - (es.length + xs.length)) = V at *
            have hkn : ∀ o, K w.heap.size o = none := fun o => by
              cases hk : K w.heap.size o with
              | none => rfl
              | some v => have := hI.k_lt hk; omega
            have hkl : Kle K (K.row w.heap.size 0 ((es ++ xs).length * i.size) V) := Kle.row fun o _ _ => hkn o
            have hpush : ({ w with heap := w.heap.push (.cells V e), drawn := w.drawn + 1 } : World).heap = w.heap.push (.cells V e) := rfl
            obtain ⟨k1, k2⟩ := hI.change (w' := { w with heap := w.heap.push (.cells V e), drawn := w.drawn + 1 }) (K' := K.row w.heap.size 0 ((es ++ xs).length * i.size) V) id
              (g' := .tip (some (w.heap.size, (es ++ xs).length * i.size, c - (es.length + xs.length)))) (o' := .tip (pos + xs.length) i.size) hG hH (by simp)
              (fun b' hb' _ => heap_push_lt hpush hb') ⟨rfl, rfl, rfl⟩ (fun b' hb' => .inr (by simp [GI.blocks] at hb'; omega)) hkl
              (fun b' p v g1 g2 => .inr (by have := (Kmem.row_new g1 g2).1; omega))
              (fun b p v hk => by
                cases hk0 : K b p with
                | some u0 =>
                  have := hkl _ _ _ hk0
                  rw [hk] at this; cases this
                  rw [cell_same (heap_push_lt hpush (hI.k_lt hk0))]; exact hI.agree _ _ _ hk0
                | none =>
                  obtain ⟨rfl, g1, g2⟩ := Kmem.row_new hk hk0
                  rw [Kmem.row_at g1 g2] at hk
                  rw [cell_of (heap_push_eq hpush)]; exact hk)
              (by
                simp only [evo1]
                refine .inr ⟨_, rfl, fun n' sz' hh => ?_⟩
                rw [hT] at hh; cases hh
                exact ⟨pos + xs.length, hT', by omega, fun hh => by omega⟩)
              (by
                simp only [ObjRel]
                refine ⟨⟨V, e, (0, 0), heap_push_eq hpush, fun o _ => fOk_zero o, ?_⟩, fun o ho => ?_⟩
                · rw [hvsz, ← Nat.add_mul]; exact Nat.mul_le_mul_right _ (by simp; omega)
                · unfold Kmem.row; rw [if_neg (by omega)]; exact hkn o)
              (hI.walks_set hG hH (by intro m ck es todo cur e; cases e) (by intro ck es e; cases e))
            refine ⟨_, _, _, _, _, _, hrun, h, ?_, k1, k2⟩
            simp only [RelA]
            refine ⟨?_, _, by rw [List.getElem?_set_self hil], .inr ⟨pos + xs.length, i.size, _, hT', rfl, Nat.le_refl _, hall, fun _ => ⟨_, c, by simp, .inr ⟨w.heap.size, _, _, 0, rfl, rfl, by simp, by simp; omega⟩⟩⟩⟩
            have hrd := RelD.of_row (G := G) (T := tipsOf H) (K := K) (K' := K.row w.heap.size 0 ((es ++ xs).length * i.size) V) (vs := V) (b := w.heap.size) (es := es ++ xs) (c := false) (cap := c) hall
              (by rw [htk]; exact hruss) hkl (fun o ho => Kmem.row_at (Nat.zero_le _) ho) (by simp; omega) (fun h => by cases h) (by simp; omega)
            simpa using hrd
      · -- a row
        rename_i id pos
        obtain ⟨es, hH, hlim, h⟩ := h
        obtain ⟨y, w', G', hrun, k1, k2, k3⟩ := rowAppend_sound (ty := ty) hI h2 e1 e3 hzs hn hH ha hlen hus rus hone (fun w' hw' => hfc w' hw') hux hby hlim
        exact ⟨y, w', G', K, _, _, hrun, h, k1, k2, k3⟩
      · -- a slice of one's own that was not appended to yet
        rename_i id len sz
        obtain ⟨es, hH, rfl, hu, rfl, es', hH', hlim, h⟩ := h
        obtain ⟨G1, K1, hI1, hr1, hp1⟩ := Weak.arrRow (N := G.length) (ts := [.arr id 0 es.length i.size]) (t := 0) rfl hH rfl hu G K w [v] hI (RelAs.cons ha RelAs.nil) (Nat.le_refl _)
        have ha1 : RelA G1 (tipsOf (H.set id .dead ++ [.row 0 i.size es])) K1 (.row H.length 0) v := by simpa [RelAs] using hr1
        have rus1 := RelAs.evo hp1.kle hp1.evo rus
        obtain ⟨y, w', G', hrun, k1, k2, k3⟩ := rowAppend_sound (ty := ty) hI1 h2 e1 e3 hzs hn hH' ha1 hlen hus rus1 hone (fun w' hw' => hfc w' hw') hux hby hlim
        exact ⟨y, w', G', K1, _, _, hrun, h, k1, k2, hp1.trans (k3.less hp1.len)⟩
      · exact h.elim

end Go.Proofs.YthhmioodienlmaaGreatDoor

/- The abstract machine, part 11: structs and slices built, slices and strings cut, rows made. -/
namespace Go.Proofs.YthhmioodienlmaaGreatDoor
open Go

variable {P : Program} {G : List GI} {T : Tips} {K : Kmem} {w : World} {H H' : List HO}

def fillA (place : Nat → Option (Nat × Nat)) : List AV → List (Nat × AV) → Option (List AV)
  | cs, [] => some cs
  | cs, (i, a) :: r => match place i, a.cells? with
    | some (off, size), some new => if new.length = size ∧ off + size ≤ cs.length then fillA place (splice cs off new) r else none
    | _, _ => none

def RelPs (G : List GI) (T : Tips) (K : Kmem) : List (Nat × AV) → List (Nat × Value) → Prop
  | [], vs => vs = []
  | (i, a) :: as, vs => ∃ v ws, vs = (i, v) :: ws ∧ RelA G T K a v ∧ RelPs G T K as ws

theorem foldl_asplice (us : List Value) : ∀ (k off : Nat) (cs : Array Value), (us.zipIdx k).foldl (fun cs (x : Value × Nat) => cs.setIfInBounds (off + x.2) x.1) cs = asplice cs (off + k) us := by
  induction us with
  | nil => intro k off cs; rfl
  | cons u us ih =>
    intro k off cs
    simp only [List.zipIdx_cons, List.foldl_cons, asplice]
    rw [ih]; rfl

theorem fill_rel {place : Nat → Option (Nat × Nat)} : ∀ {parts : List (Nat × AV)} {vparts : List (Nat × Value)} {cs cs' : List AV} {vs : Array Value}, RelAs G T K cs vs.toList → RelPs G T K parts vparts →
    fillA place cs parts = some cs' → ∃ vs' : Array Value, Instr.fill place vs vparts = some vs' ∧ RelAs G T K cs' vs'.toList ∧ vs'.size = vs.size ∧ ((∀ u ∈ vs.toList, u.oneCell' = true) → ∀ u ∈ vs'.toList, u.oneCell' = true)
  | [], vparts, cs, cs', vs, h, hp, hf => by
    simp only [RelPs] at hp; subst hp
    simp only [fillA, Option.some.injEq] at hf; subst hf
    exact ⟨vs, rfl, h, rfl, fun h => h⟩
  | (i, a) :: parts, vparts, cs, cs', vs, h, hp, hf => by
    simp only [RelPs] at hp
    obtain ⟨v, ws, rfl, h1, h2⟩ := hp
    simp only [fillA] at hf
    split at hf
    · rename_i off size new hpl hnew
      split at hf
      · rename_i hc
        obtain ⟨r1, r2⟩ := cells_rel h1 hnew
        have hl1 := r1.length
        have hl2 := h.length
        simp only [Array.length_toList] at hl1 hl2
        have hs : asplice vs off v.cells.toList = v.cells.zipIdx.foldl (fun cs (x : Value × Nat) => cs.setIfInBounds (off + x.2) x.1) vs := by
          rw [← Array.foldl_toList, Array.toList_zipIdx, foldl_asplice]; simp
        have hR : RelAs G T K (splice cs off new) (asplice vs off v.cells.toList).toList := by
          rw [asplice_toList _ _ _ (by simp; omega)]
          exact splice_rel h r1
        obtain ⟨vs', k1, k2, k3, k4⟩ := fill_rel hR h2 hf
        refine ⟨vs', ?_, k2, by rw [k3, asplice_size], fun hone => k4 ?_⟩
        · simp only [Instr.fill, hpl]
          rw [if_neg (by simp; omega), ← hs, k1]
        · rw [asplice_toList _ _ _ (by simp; omega)]
          intro u hu
          simp only [List.mem_append] at hu
          rcases hu with (hu | hu) | hu
          · exact hone u (List.mem_of_mem_take hu)
          · exact r2 u hu
          · exact hone u (List.mem_of_mem_drop hu)
      · cases hf
    · cases hf

def oBuild (ti te : Option TInf) (parts : List (Nat × AV)) (H : List HO) : Res :=
  match ti with
  | some t =>
    if t.agg = true then
      match t.alen with
      | none => (fillA (fun i => (t.fields[i]?).map fun x => (x.1, x.2.1)) (t.zero.map .d) parts).map fun cs => (.agg cs, H)
      | some _ => match te with | some e => (fillA (fun i => some (i * e.size, e.size)) (t.zero.map .d) parts).map fun cs => (.agg cs, H) | none => none
    else none
  | none => none

theorem mapM_places {fs : List Field} (h : ∀ f ∈ fs, (P.info? f.type).isSome = true) : (fs.mapM fun f => (do pure (f.offset, ← sizeOf f.type) : Sem (Nat × Nat))).run P w = .ok (fs.map fun f => (f.offset, P.cellsOf f.type)) w := by
  induction fs with
  | nil => simp
  | cons f fs ih =>
    obtain ⟨i, hi⟩ := Option.isSome_iff_exists.1 (h f (by simp))
    have ih' := ih (fun x hx => h x (by simp [hx]))
    simp only [List.mapM_cons, Sem.run_bind, run_sizeOf hi, Result.andThen_ok, Sem.run_pure]
    rw [ih']
    simp [Program.cellsOf, hi]

theorem oBuild_sound {t : TypeId} {ti : TInf} (ht : tinfo P t = some ti) {parts : List (Nat × AV)} {vparts : Array (Nat × Value)} {x : AV} (hp : RelPs G T K parts vparts.toList)
    (h : oBuild (some ti) (tinfo P ti.elem) parts H = some (x, H')) : H' = H ∧ ∃ y, (Instr.build t vparts).run P w = .ok y w ∧ RelA G T K x y := by
  obtain ⟨i, d, z, h1, h2, h3, h4, rfl⟩ := tinfo_spec ht
  have hz : ∀ c ∈ z.cells.toList, c.oneCell' = true := fun c hc => (Array.all_eq_true_iff_forall_mem.1 h4.1) c (by simpa using hc)
  have hzr : RelAs G T K ((mkTI P t i d z).zero.map .d) z.cells.toList := absDs_rel hz
  unfold oBuild at h
  simp only at h
  split at h
  · rename_i hagg
    have hzero : (zeroValue t).run P w = .ok z w := by simp [zeroValue, typeInfo, h1, h3]
    cases d with
    | struct fs =>
      simp only [mkTI, Option.map_eq_some_iff, Prod.mk.injEq] at h
      obtain ⟨cs, hf, rfl, rfl⟩ := h
      obtain ⟨vs', k1, k2, _⟩ := fill_rel hzr hp hf
      refine ⟨rfl, .agg vs', ?_, by simp only [RelA]; exact ⟨_, rfl, k2⟩⟩
      have hfs : ∀ f ∈ fs.toList, (P.info? f.type).isSome = true := fun f hf => by
        have := h4.2.1
        simp only [okFs] at this
        have := (Array.all_eq_true_iff_forall_mem.1 this) f (by simpa using hf)
        simp only [Bool.and_eq_true] at this
        exact this.1
      have hmm := mapM_places (P := P) (w := w) hfs
      have hplaces : ((fs.mapM fun f => (do pure (f.offset, ← sizeOf f.type) : Sem (Nat × Nat)))).run P w = .ok (fs.map fun f => (f.offset, P.cellsOf f.type)) w := by
        rw [Array.mapM_eq_mapM_toList, Sem.run_map, hmm]
        simp only [Result.andThen_ok]
        congr 1
        apply Array.ext'
        simp
      unfold Instr.build
      simp only [Sem.run_bind, hzero, Result.andThen_ok, run_under h2]
      rw [hplaces]
      simp only [Result.andThen_ok]
      have hfun : (fun (i : Nat) => (fs.map fun f => (f.offset, P.cellsOf f.type))[i]?) = fun (i : Nat) => ((fs.toList.map fun f => (f.offset, P.cellsOf f.type, isRowT P f.type))[i]?).map fun (x : Nat × Nat × Bool) => (x.1, x.2.1) := by
        funext i
        simp [Function.comp_def]
      rw [hfun, k1]
      rfl
    | array n e =>
      simp only [mkTI] at h
      cases he : tinfo P e with
      | none => simp [he] at h
      | some te =>
        rw [he] at h
        obtain ⟨ie, de, ze, e1, e2, e3, e4, rfl⟩ := tinfo_spec he
        simp only [mkTI, Option.map_eq_some_iff, Prod.mk.injEq] at h
        obtain ⟨cs, hf, rfl, rfl⟩ := h
        obtain ⟨vs', k1, k2, _⟩ := fill_rel hzr hp hf
        refine ⟨rfl, .agg vs', ?_, by simp only [RelA]; exact ⟨_, rfl, k2⟩⟩
        unfold Instr.build
        simp only [Sem.run_bind, hzero, Result.andThen_ok, run_under h2, run_sizeOf e1]
        rw [k1]
        rfl
    | _ => simp [mkTI, isRowT, h2] at hagg
  · cases h

/-! ### slices from literals -/
def zerosA (te : TInf) (n : Nat) : List AV := ((List.replicate n te.zero).flatten).map .d

def oBuildSlice (m : Bool) (ti te : Option TInf) (n : Nat) (parts : List (Nat × AV)) (H : List HO) : Res :=
  match ti, te with
  | some t, some e =>
    if t.isSl = true ∧ n * e.size ≤ 16777216 ∧ n ≤ lim then
      match fillA (fun i => some (i * e.size, e.size)) (zerosA e n) parts with
      | some cs => match (if m = true ∧ n ≠ 0 ∧ e.kint ≠ some .u8 then none else toDs cs) with
        | some ds => some (.d (.sl true (chunk e.size n ds)), H)
        | none => some (.arr H.length 0 n e.size, H ++ [.cells cs])
      | none => none
    else none
  | _, _ => none

theorem zeros_rel {e : TypeId} {i : TypeInfo} {d : TypeDesc} {z : Value} (h4 : z.cells.all Value.oneCell' = true) (hs : z.cells.size = i.size) (n : Nat) :
    RelAs G T K (zerosA (mkTI P e i d z) n) ((Array.range (n * i.size)).map ((if n * i.size = 0 then #[] else z.cells)[· % (if n * i.size = 0 then #[] else z.cells).size]!)).toList := by
  have hz : ∀ c ∈ z.cells.toList, c.oneCell' = true := fun c hc => (Array.all_eq_true_iff_forall_mem.1 h4) c (by simpa using hc)
  have hzr : RelAs G T K ((z.cells.toList.map absD).map .d) z.cells.toList := absDs_rel hz
  by_cases h0 : n * i.size = 0
  · have : zerosA (mkTI P e i d z) n = [] := by
      simp only [zerosA, mkTI]
      rcases Nat.mul_eq_zero.1 h0 with h | h
      · subst h; simp
      · have : z.cells.toList = [] := by
          apply List.eq_nil_of_length_eq_zero
          rw [Array.length_toList, hs, h]
        simp [this]
    rw [this, h0]
    simpa using RelAs.nil
  · rw [if_neg h0]
    have hpos : 0 < i.size := by
      rcases Nat.eq_zero_or_pos i.size with h | h
      · rw [h] at h0; simp at h0
      · exact h
    have key : ∀ m, RelAs G T K (zerosA (mkTI P e i d z) m) ((List.range (m * i.size)).map fun x => z.cells[x % z.cells.size]!) := by
      intro m
      induction m with
      | zero => simpa [zerosA] using RelAs.nil
      | succ m ih =>
        have e1 : zerosA (mkTI P e i d z) (m + 1) = zerosA (mkTI P e i d z) m ++ (z.cells.toList.map absD).map .d := by
          simp [zerosA, mkTI, List.replicate_succ', List.flatten_append]
        have e2 : (List.range ((m + 1) * i.size)).map (fun x => z.cells[x % z.cells.size]!) = (List.range (m * i.size)).map (fun x => z.cells[x % z.cells.size]!) ++ z.cells.toList := by
          rw [Nat.add_mul, Nat.one_mul, List.range_add, List.map_append]
          congr 1
          apply List.ext_getElem
          · simp; omega
          · intro j g1 g2
            simp at g1 g2
            simp only [List.getElem_map, List.getElem_range, Array.getElem_toList]
            rw [hs]
            rw [show (m * i.size + j) % i.size = j by rw [Nat.mul_comm, Nat.mul_add_mod, Nat.mod_eq_of_lt g1]]
            rw [getElem!_pos z.cells j (by omega)]
        rw [e1, e2]
        exact ih.append hzr
    simpa using key n

theorem oBuildSlice_sound (hI : Inv G K w H) {m : Bool} {t : TypeId} {ti : TInf} (ht : tinfo P t = some ti) {n : Nat} {parts : List (Nat × AV)} {vparts : Array (Nat × Value)} {x : AV}
    (hp : RelPs G (tipsOf H) K parts vparts.toList) (h : oBuildSlice m (some ti) (tinfo P ti.elem) n parts H = some (x, H')) :
    ∃ y w' G' K', (Instr.buildSlice t n vparts).run P w = .ok y w' ∧ RelA G' (tipsOf H') K' x y ∧ Inv G' K' w' H' ∧ Post G.length G (tipsOf H) K w G' (tipsOf H') K' w' := by
  obtain ⟨i, d, z, h1, h2, h3, h4, rfl⟩ := tinfo_spec ht
  unfold oBuildSlice at h
  cases hte : tinfo P (mkTI P t i d z).elem with
  | none => simp [hte] at h
  | some te =>
    rw [hte] at h
    obtain ⟨ie, de, ze, e1, e2, e3, e4, rfl⟩ := tinfo_spec hte
    simp only at h
    split at h
    · rename_i hc
      obtain ⟨c1, c2, c3⟩ := hc
      cases d <;> simp [mkTI] at c1
      rename_i e
      simp only [mkTI] at e1 e2 c2
      split at h
      · rename_i cs hf
        obtain ⟨vs', k1, k2, k3, k4⟩ := fill_rel (zeros_rel (P := P) (e := e) (d := de) (i := ie) e4.1 e4.2.2 n) hp hf
        have hone : ∀ u ∈ vs'.toList, u.oneCell' = true := k4 (by
          intro u hu
          simp at hu
          obtain ⟨j, hj, rfl⟩ := hu
          split
          · rename_i h0; omega
          · rename_i h0
            have hpos : 0 < ie.size := by
              rcases Nat.eq_zero_or_pos ie.size with h | h
              · rw [h] at h0; simp at h0
              · exact h
            have hlt : j % ze.cells.size < ze.cells.size := Nat.mod_lt _ (by rw [e4.2.2]; exact hpos)
            rw [getElem!_pos ze.cells _ hlt]
            exact (Array.all_eq_true_iff_forall_mem.1 e4.1) _ (Array.getElem_mem hlt))
        have hsz : vs'.size = n * ie.size := by rw [k3]; simp
        have hrun : (Instr.buildSlice t n vparts).run P w = .ok (.slice (some ⟨w.heap.size, 0, none⟩) n n) { w with heap := w.heap.push (.cells vs' e) } := by
          unfold Instr.buildSlice
          simp only [Sem.run_bind, run_under h2, Result.andThen_ok, run_sizeOf e1]
          rw [if_neg (by omega)]
          by_cases h0 : n * ie.size = 0
          · rw [if_pos h0] at k1
            simp only [mkTI] at k1
            simp only [if_pos h0, Sem.run_bind, Sem.run_pure, Result.andThen_ok]
            rw [k1]
            simp [newRow]
          · rw [if_neg h0] at k1
            simp only [mkTI] at k1
            have hzv : (zeroValue e).run P w = .ok ze w := by simp [zeroValue, typeInfo, e1, e3]
            simp only [if_neg h0, Sem.run_bind, Sem.run_pure, Result.andThen_ok, hzv]
            rw [k1]
            simp [newRow]
        refine ⟨.slice (some ⟨w.heap.size, 0, none⟩) n n, { w with heap := w.heap.push (.cells vs' e) }, ?_⟩
        split at h
        · rename_i ds hds
          simp only [Option.some.injEq, Prod.mk.injEq] at h
          obtain ⟨rfl, rfl⟩ := h
          split at hds
          · cases hds
          · have hl := toDs_length hds
            have hl2 := k2.length
            simp only [Array.length_toList] at hl2
            obtain ⟨q1, q2, q3⟩ := chunk_spec (sz := ie.size) (n := n) (l := ds) (by omega)
            obtain ⟨j1, j2⟩ := hI.fixNew (w' := { w with heap := w.heap.push (.cells vs' e) }) (vs := vs') (t := e) rfl ⟨rfl, rfl, rfl⟩ (n * ie.size)
            refine ⟨G, _, hrun, ?_, j1, j2⟩
            simp only [RelA, mkTI]
            have hd := toDs_rel hds k2
            have := RelD.of_row (G := G) (T := tipsOf H) (K := K) (es := chunk ie.size n ds) (sz := ie.size) (vs := vs') (b := w.heap.size) q3 (by rw [q1, q2, ← hsz, ← Array.length_toList, List.take_length]; exact hd)
              (K' := K.row w.heap.size 0 (n * ie.size) vs') j2.kle (by rw [q2]; intro o ho; exact Kmem.row_at (Nat.zero_le _) ho) (c := true) (cap := n) (by omega) (by omega) (by omega)
            rwa [q2] at this
        · simp only [Option.some.injEq, Prod.mk.injEq] at h
          obtain ⟨rfl, rfl⟩ := h
          obtain ⟨j1, j2, j3⟩ := hI.newCells' (w' := { w with heap := w.heap.push (.cells vs' e) }) (vs := vs') (t := e) rfl ⟨rfl, rfl, rfl⟩ k2
          refine ⟨_, _, hrun, ?_, j1, j2⟩
          unfold RelA
          refine ⟨.cells w.heap.size vs'.size, by rw [← hI.len]; simp, rfl, .inr ⟨w.heap.size, vs'.size, n, rfl, rfl, Nat.le_refl _, c3, ?_⟩⟩
          simp [mkTI, hsz]
      · cases h
    · cases h

end Go.Proofs.YthhmioodienlmaaGreatDoor
