/- The abstract machine, part 19: regions that draw the order of their operations: the order of the text is enough, where operations without an order between them do not meet. -/
import Derived.Test.YthhmioodienlmaaGreatDoorKE
set_option linter.unusedSimpArgs false
set_option linter.unusedVariables false
namespace Go.Proofs.YthhmioodienlmaaGreatDoor
open Go

variable {P : Program} {G : List GI} {T : Tips} {K : Kmem} {w : World} {H H' : List HO}

/-! ### what an operation reads -/
theorem aparts_congr {ts ts' : List AV} {ps : Array (Nat × Operand)} (h : ∀ x ∈ (ps.toList.map (·.2)).toArray, aev ts x = aev ts' x) : aparts ts ps = aparts ts' ps := by
  unfold aparts
  apply List.map_congr_left
  intro x hx
  rw [h x.2 (by simp; exact ⟨x.1, by simpa using hx⟩)]
theorem aevs_congr {ts ts' : List AV} {xs : Array Operand} (h : ∀ x ∈ xs, aev ts x = aev ts' x) : aevs ts xs = aevs ts' xs := by
  unfold aevs
  apply List.map_congr_left
  intro x hx
  exact h x (by simpa using hx)
theorem aevo_congr {ts ts' : List AV} {x : Option Operand} (h : ∀ y ∈ x, aev ts y = aev ts' y) : aevo ts x = aevo ts' x := by
  cases x with
  | none => rfl
  | some x => simp only [aevo, Option.map_some]; rw [h x rfl]

theorem aOp_reads {m : Bool} {o : Op} {ts ts' : List AV} {K : AV → List HO → Prop} (h : ∀ x ∈ o.operands, aev ts x = aev ts' x) (ho : aOp P m o ts H K) : aOp P m o ts' H K := by
  cases o <;> simp only [aOp, Op.operands] at h ho ⊢
  case move x => rw [← h x (by simp)]; exact ho
  case assign x => rw [← h x (by simp)]; exact ho
  case pick c a b => rw [← h c (by simp), ← h a (by simp), ← h b (by simp)]; exact ho
  case alloc => exact ho
  case box t x => rw [← h x (by simp)]; exact ho
  case build t ps => rw [← aparts_congr h]; exact ho
  case buildSlice t n ps => rw [← aparts_congr h]; exact ho
  case load t x => rw [← h x (by simp)]; exact ho
  case store t x y => rw [← h x (by simp), ← h y (by simp)]; exact ho
  case nilCheck x => rw [← h x (by simp)]; exact ho
  case binOp op t x y t2 =>
    rw [← h x (by simp), ← h y (by simp)]; exact ho
  case unOp op t x => rw [← h x (by simp)]; exact ho
  case convert s d x => rw [← h x (by simp)]; exact ho
  case makeFunc fn f c =>
    rw [← aevs_congr (xs := f) (fun x hx => h x (by simp [hx])), ← aevs_congr (xs := c) (fun x hx => h x (by simp [hx]))]; exact ho
  case makeSlice t l c => rw [← h l (by simp), ← h c (by simp)]; exact ho
  case slice t x lo hi mx =>
    rw [← h x (by simp), ← aevo_congr (x := lo) (fun y hy => h y (by cases lo <;> simp_all)), ← aevo_congr (x := hi) (fun y hy => h y (by cases hi <;> simp_all)), ← aevo_congr (x := mx) (fun y hy => h y (by cases mx <;> simp_all))]; exact ho
  case fieldAddr s x f => rw [← h x (by simp)]; exact ho
  case field s x f => rw [← h x (by simp)]; exact ho
  case indexAddr t x i => rw [← h x (by simp), ← h i (by simp)]; exact ho
  case index t x i => rw [← h x (by simp), ← h i (by simp)]; exact ho
  case extract x i => rw [← h x (by simp)]; exact ho
  case makeMap t r => cases r <;> exact ho
  case lookup t x k ok => rw [← h x (by simp), ← h k (by simp)]; exact ho
  case mapUpdate t x k y => rw [← h x (by simp), ← h k (by simp), ← h y (by simp)]; exact ho
  case insert t x k y => rw [← h x (by simp), ← h k (by simp), ← h y (by simp)]; exact ho
  case range t x => rw [← h x (by simp)]; exact ho
  case next it s =>
    cases s with
    | true => exact ho
    | false => simp only at ho ⊢; rw [← h it (by simp)]; exact ho
  case entry it => rw [← h it (by simp)]; exact ho
  case call c =>
    obtain ⟨callee, args, ats⟩ := c
    unfold aCall at ho ⊢
    simp only [Call.operands] at h
    have ha : aevs ts args = aevs ts' args := aevs_congr fun x hx => h x (by simp [hx])
    cases callee with
    | value f => simp only at ho ⊢ h; rw [← h f (by simp), ← ha]; exact ho
    | builtin b => simp only at ho ⊢; rw [← ha]; exact ho
    | invoke _ _ => exact ho

/-- the temporaries that an operation looks at -/
def rds (ops : Array Oper) (o : Oper) : List Tmp :=
  (o.op.operands.toList.filterMap fun | .tmp t => some t | _ => none) ++ (match o.guard with | some (j, _) => (((ops[j]?).bind (·.dst)).toList) | none => [])

/-- an operation comes to a value: or it is not wanted, and the value is none -/
def stepOk (P : Program) (m : Bool) (ops : Array Oper) (o : Oper) (v : AV) (ts : List AV) (H H' : List HO) : Prop :=
  aWant ops o ts (aOp P m o.op ts H fun v' H2 => v' = v ∧ H2 = H') (v = .tup [] ∧ H = H')

theorem stepOk_reads {m : Bool} {ops : Array Oper} {o : Oper} {v : AV} {ts ts' : List AV} (h : ∀ d ∈ rds ops o, ts[d]? = ts'[d]?) (hs : stepOk P m ops o v ts H H') : stepOk P m ops o v ts' H H' := by
  have hop : ∀ x ∈ o.op.operands, aev ts x = aev ts' x := by
    intro x hx
    cases x with
    | tmp t =>
      simp only [aev]
      rw [h t (by unfold rds; simp only [List.mem_append, List.mem_filterMap]; exact .inl ⟨.tmp t, by simpa using hx, rfl⟩)]
    | _ => rfl
  unfold stepOk at hs ⊢
  have hw : aWant ops o ts' (aOp P m o.op ts H fun v' H2 => v' = v ∧ H2 = H') (v = .tup [] ∧ H = H') := by
    unfold aWant at hs ⊢
    cases hg : o.guard with
    | none => rw [hg] at hs; exact hs
    | some x =>
      obtain ⟨j, want⟩ := x
      rw [hg] at hs
      simp only at hs ⊢
      cases hd : (ops[j]?).bind (·.dst) with
      | none => rw [hd] at hs; exact hs
      | some d =>
        rw [hd] at hs
        simp only at hs ⊢
        rw [← h d (by unfold rds; rw [hg]; simp only; rw [hd]; simp)]
        exact hs
  exact aWant_mono hw (fun h => aOp_reads hop h) (fun h => h)

theorem aStep_of {m : Bool} {ops : Array Oper} {o : Oper} {v : AV} {ts : List AV} {Kt : List AV → List HO → Prop} (hs : stepOk P m ops o v ts H H') (hk : Kt (aput o.dst v ts) H') :
    aWant ops o ts (aOp P m o.op ts H fun v H' => Kt (aput o.dst v ts) H') (Kt (aput o.dst (.tup []) ts) H) := by
  refine aWant_mono hs (fun h => aOp_mono h ?_) ?_
  · rintro v' H2 ⟨rfl, rfl⟩; exact hk
  · rintro ⟨rfl, rfl⟩; exact hk

/-! ### the order -/
/-- the operations that must come before one, by its own edges -/
def drct (o : Oper) : List Nat := (o.after.toList.filter (Region.binds .any)).map (·.on)

def addUp (tbl : List (List Nat)) (o : Oper) : List (List Nat) :=
  tbl ++ [((drct o) ++ (drct o).flatMap fun j => (tbl[j]?).getD []).eraseDups]
def mkTbl (ops : List Oper) : List (List Nat) := ops.foldl addUp []

/-- is the table right? each entry is an edge of one's own, or stands in the table of such an edge -/
def tblOk (ops : List Oper) (tbl : List (List Nat)) : Bool :=
  ops.length == tbl.length && (ops.zipIdx.all fun (o, i) => (drct o).all (· < i) && ((tbl[i]?).getD []).all fun a => (drct o).contains a || (drct o).any fun j => ((tbl[j]?).getD []).contains a)

/-- may two operations, the first ahead of the second in the text, stand without an order? -/
def apart2 (opsA : Array Oper) (loud : List Nat) (i j : Nat) (oi oj : Oper) : Bool :=
  (match oi.dst with | some d => !((rds opsA oj).contains d) && !(oj.dst == some d) | none => true) &&
  (match oj.dst with | some d => !((rds opsA oi).contains d) | none => true) && !(loud.contains i && loud.contains j)

def drawOk (ops : List Oper) (loud : List Nat) (tbl : List (List Nat)) : Bool :=
  tblOk ops tbl && (ops.zipIdx.all fun (oj, j) => ops.zipIdx.all fun (oi, i) => !(i < j) || ((tbl[j]?).getD []).contains i || apart2 ops.toArray loud i j oi oj)

/-! ### the proof -/
def fillTo (ops : List Oper) (v : Nat → AV) (S : Nat → Bool) (ts : List AV) : Nat → List AV
  | 0 => ts
  | k + 1 => match ops[k]? with
    | some o => if S k = true then aput o.dst (v k) (fillTo ops v S ts k) else fillTo ops v S ts k
    | none => fillTo ops v S ts k

theorem aput_ne {d : Tmp} {dst : Option Tmp} {x : AV} {ts : List AV} (h : dst ≠ some d) : (aput dst x ts)[d]? = ts[d]? := by
  cases dst with
  | none => rfl
  | some e => simp only [aput]; exact List.getElem?_set_ne (fun he => h (by rw [he]))

theorem fillTo_agree {ops : List Oper} {v : Nat → AV} {S S' : Nat → Bool} {ts : List AV} {d : Tmp} : ∀ (k : Nat), (∀ j, j < k → ∀ o, ops[j]? = some o → o.dst = some d → S j = S' j) →
    (fillTo ops v S ts k)[d]? = (fillTo ops v S' ts k)[d]? ∧ (fillTo ops v S ts k).length = (fillTo ops v S' ts k).length
  | 0, _ => ⟨rfl, rfl⟩
  | k + 1, h => by
    obtain ⟨ih1, ih2⟩ := fillTo_agree (v := v) (ts := ts) k (fun j hj => h j (by omega))
    have hlen : ∀ (dst : Option Tmp) (x : AV) (l : List AV), (aput dst x l).length = l.length := fun dst x l => by cases dst <;> simp [aput]
    simp only [fillTo]
    cases ho : ops[k]? with
    | none => exact ⟨ih1, ih2⟩
    | some o =>
      simp only
      by_cases hd : o.dst = some d
      · have := h k (by omega) o ho hd
        rw [this]
        split
        · refine ⟨?_, by rw [hlen, hlen, ih2]⟩
          rw [hd]
          simp only [aput, List.getElem?_set]
          simp [ih2]
        · exact ⟨ih1, ih2⟩
      · refine ⟨?_, ?_⟩
        · split <;> split <;> simp only [aput_ne hd, ih1]
        · split <;> split <;> simp only [hlen, ih2]

theorem aput_comm {d e : Option Tmp} {x y : AV} {ts : List AV} (h : ∀ t, d = some t → e ≠ some t) : aput d x (aput e y ts) = aput e y (aput d x ts) := by
  cases d with
  | none => rfl
  | some d => cases e with
    | none => rfl
    | some e =>
      simp only [aput]
      exact List.set_comm _ _ (fun he => h d rfl (by rw [he]))

theorem fillTo_insert {ops : List Oper} {v : Nat → AV} {S S' : Nat → Bool} {ts : List AV} {i : Nat} {oi : Oper} (hi : ops[i]? = some oi) (hS : S i = false) (hS' : ∀ j, S' j = (if j = i then true else S j)) :
    ∀ (k : Nat), (∀ j, i < j → j < k → S j = true → ∀ o, ops[j]? = some o → ∀ t, oi.dst = some t → o.dst ≠ some t) →
      fillTo ops v S' ts k = if i < k then aput oi.dst (v i) (fillTo ops v S ts k) else fillTo ops v S ts k
  | 0, _ => by simp [fillTo]
  | k + 1, h => by
    have ih := fillTo_insert (v := v) (ts := ts) hi hS hS' k (fun j h1 h2 => h j h1 (by omega))
    simp only [fillTo]
    by_cases hk : k = i
    · subst hk
      rw [hi]
      simp only [hS', if_true, hS, Bool.false_eq_true, if_false]
      rw [ih, if_neg (by omega), if_pos (by omega)]
    · cases ho : ops[k]? with
      | none =>
        simp only
        rw [ih]
        by_cases hlt : i < k
        · rw [if_pos hlt, if_pos (by omega)]
        · rw [if_neg hlt, if_neg (by omega)]
      | some o =>
        simp only [hS', if_neg hk]
        rw [ih]
        by_cases hlt : i < k
        · simp only [if_pos hlt, if_pos (show i < k + 1 by omega)]
          by_cases hs : S k = true
          · simp only [if_pos hs]
            exact aput_comm (fun t ht he => h k hlt (by omega) hs o ho t he ht)
          · simp only [if_neg hs]
        · simp only [if_neg hlt, if_neg (show ¬ i < k + 1 by omega)]

theorem takeWhile_len {S : Nat → Bool} : ∀ {l : List Nat} {h : Nat}, (∀ q, q < h → ∃ x, l[q]? = some x ∧ S x = true) → (∀ x, l[h]? = some x → S x = false) → (l.takeWhile S).length = h
  | [], h, h1, _ => by
    cases h with
    | zero => rfl
    | succ h => obtain ⟨x, hx, _⟩ := h1 0 (by omega); simp at hx
  | a :: l, h, h1, h2 => by
    cases h with
    | zero =>
      have := h2 a rfl
      simp [List.takeWhile_cons, this]
    | succ h =>
      obtain ⟨x, hx, hs⟩ := h1 0 (by omega)
      simp at hx; subst hx
      rw [List.takeWhile_cons, if_pos hs, List.length_cons]
      rw [takeWhile_len (h := h) (fun q hq => by simpa using h1 (q + 1) (by omega)) (fun x hx => h2 x (by simpa using hx))]

theorem takeWhile_spec {S : Nat → Bool} : ∀ {l : List Nat} {q : Nat}, q < (l.takeWhile S).length → ∃ x, l[q]? = some x ∧ S x = true
  | [], q, h => by simp at h
  | a :: l, q, h => by
    by_cases hs : S a = true
    · rw [List.takeWhile_cons, if_pos hs] at h
      cases q with
      | zero => exact ⟨a, rfl, hs⟩
      | succ q => simpa using takeWhile_spec (l := l) (q := q) (by simpa using h)
    · rw [List.takeWhile_cons, if_neg hs] at h; simp at h

theorem takeWhile_stop {S : Nat → Bool} : ∀ {l : List Nat} {x : Nat}, l[(l.takeWhile S).length]? = some x → S x = false
  | [], x, h => by simp at h
  | a :: l, x, h => by
    by_cases hs : S a = true
    · simp only [List.takeWhile_cons, if_pos hs, List.length_cons, List.getElem?_cons_succ] at h
      exact takeWhile_stop h
    · simp only [List.takeWhile_cons, if_neg hs, List.length_nil, List.getElem?_cons_zero, Option.some.injEq] at h
      subst h; simpa using hs

theorem filter_le {p p' : Nat → Bool} (h : ∀ x, p' x = true → p x = true) : ∀ l : List Nat, (l.filter p').length ≤ (l.filter p).length
  | [] => Nat.le_refl _
  | a :: l => by
    have ih := filter_le h l
    by_cases h1 : p' a = true
    · rw [List.filter_cons_of_pos h1, List.filter_cons_of_pos (h a h1)]; simpa using ih
    · rw [List.filter_cons_of_neg h1]
      by_cases h2 : p a = true
      · rw [List.filter_cons_of_pos h2]; simp; omega
      · rw [List.filter_cons_of_neg h2]; exact ih

theorem filter_lt {p p' : Nat → Bool} (h : ∀ x, p' x = true → p x = true) {i : Nat} (h1 : p i = true) (h2 : p' i = false) : ∀ l : List Nat, i ∈ l → (l.filter p').length < (l.filter p).length
  | [], hm => by cases hm
  | a :: l, hm => by
    have hle := filter_le h l
    by_cases ha : a = i
    · subst ha
      rw [List.filter_cons_of_pos h1, List.filter_cons_of_neg (by simp [h2])]; simp; omega
    · have ih := filter_lt h h1 h2 l (by simpa [Ne.symm ha] using hm)
      by_cases h3 : p' a = true
      · rw [List.filter_cons_of_pos h3, List.filter_cons_of_pos (h a h3)]; simpa using ih
      · rw [List.filter_cons_of_neg h3]
        by_cases h4 : p a = true
        · rw [List.filter_cons_of_pos h4]; simp; omega
        · rw [List.filter_cons_of_neg h4]; exact ih

/-- what is known of the table -/
structure Order (ops : List Oper) (loud : List Nat) (tb : Nat → Nat → Prop) : Prop where
  lt : ∀ i o, ops[i]? = some o → ∀ j ∈ drct o, j < i
  cl : ∀ i o, ops[i]? = some o → ∀ a, tb i a → a ∈ drct o ∨ ∃ j ∈ drct o, tb j a
  ap : ∀ i j oi oj, i < j → ops[i]? = some oi → ops[j]? = some oj → ¬ tb j i → (∀ d, oi.dst = some d → d ∉ rds ops.toArray oj ∧ oj.dst ≠ some d) ∧ (∀ d, oj.dst = some d → d ∉ rds ops.toArray oi) ∧ ¬ (i ∈ loud ∧ j ∈ loud)

theorem Order.of_ok {ops : List Oper} {loud : List Nat} {tbl : List (List Nat)} (h : drawOk ops loud tbl = true) : Order ops loud (fun i a => a ∈ (tbl[i]?).getD []) := by
  unfold drawOk tblOk at h
  simp only [Bool.and_eq_true, List.all_eq_true, beq_iff_eq, decide_eq_true_eq, Bool.or_eq_true, Bool.not_eq_true', decide_eq_false_iff_not, List.contains_iff_mem, List.any_eq_true] at h
  obtain ⟨⟨h1, h2⟩, h3⟩ := h
  have hz : ∀ i o, ops[i]? = some o → (o, i) ∈ ops.zipIdx := fun i o ho => by
    rw [List.mem_zipIdx_iff_getElem?]; exact ho
  refine ⟨fun i o ho j hj => (h2 (o, i) (hz i o ho)).1 j hj, fun i o ho a ha => ?_, fun i j oi oj hij hi hj ht => ?_⟩
  · exact (h2 (o, i) (hz i o ho)).2 a ha
  · have := h3 (oj, j) (hz j oj hj) (oi, i) (hz i oi hi)
    rcases this with (h | h) | h
    · exact absurd hij h
    · exact absurd h ht
    · unfold apart2 at h
      simp only [Bool.and_eq_true, Bool.not_eq_true', Bool.and_eq_false_iff] at h
      obtain ⟨⟨a1, a2⟩, a3⟩ := h
      refine ⟨fun d hd => ?_, fun d hd => ?_, fun hl => ?_⟩
      · rw [hd] at a1
        simp only [Bool.and_eq_true, Bool.not_eq_true', List.contains_eq_mem, decide_eq_false_iff_not, beq_eq_false_iff_ne] at a1
        exact ⟨a1.1, a1.2⟩
      · rw [hd] at a2
        simp only [Bool.not_eq_true', List.contains_eq_mem, decide_eq_false_iff_not] at a2
        exact a2
      · simp only [List.contains_eq_mem, decide_eq_false_iff_not] at a3
        rcases a3 with h | h
        · exact h hl.1
        · exact h hl.2

section
variable {ops : List Oper} {loud : List Nat} {tb : Nat → Nat → Prop} (O : Order ops loud tb)
include O

/-- what stands in the table of an operation whose edges are done is done -/
theorem Order.closed {S : Nat → Bool} (hS : ∀ i o, ops[i]? = some o → S i = true → ∀ j ∈ drct o, S j = true) : ∀ (i : Nat) (o : Oper), ops[i]? = some o → (∀ j ∈ drct o, S j = true) → ∀ a, tb i a → S a = true := by
  intro i
  induction i using Nat.strongRecOn with
  | ind i ih =>
    intro o ho hd a ha
    rcases O.cl i o ho a ha with h | ⟨j, hj, h⟩
    · exact hd a h
    · have hlt := O.lt i o ho j hj
      have hjl : j < ops.length := by have := (List.getElem?_eq_some_iff.1 ho).1; omega
      have hoj : ops[j]? = some ops[j] := List.getElem?_eq_getElem hjl
      exact ih j hlt ops[j] hoj (hS j ops[j] hoj (hd j hj)) a h

end

/-- what the run in the text's order has shown -/
structure Shown (P : Program) (m : Bool) (ops : List Oper) (loud : List Nat) (tb : Nat → Nat → Prop) (v : Nat → AV) (ts : List AV) (Hs : Nat → List HO) : Prop where
  ob : ∀ i o, ops[i]? = some o → ∀ h, (∀ q l, loud[q]? = some l → tb i l → q < h) → (∀ q l, loud[q]? = some l → tb l i → h ≤ q) → (i ∈ loud → loud[h]? = some i) → h ≤ loud.length →
    stepOk P m ops.toArray o (v i) (fillTo ops v (fun j => decide (j < i)) ts ops.length) (Hs h) (Hs (if i ∈ loud then h + 1 else h))

theorem draw_go {m : Bool} {ops : List Oper} {loud : List Nat} {tb : Nat → Nat → Prop} (O : Order ops loud tb) (hsort : ∀ (q q' l l' : Nat), q < q' → loud[q]? = some l → loud[q']? = some l' → l < l') (hin : ∀ l ∈ loud, l < ops.length)
    {v : Nat → AV} {ts : List AV} {Hs : Nat → List HO} (W : Shown P m ops loud tb v ts Hs) {Q : AQ} (hQ : Q .normal (fillTo ops v (fun _ => true) ts ops.length) (Hs loud.length)) :
    ∀ (fuel t : Nat) (listed : Array Bool), listed.size = ops.length → (∀ i o, ops[i]? = some o → listed.getD i false = true → ∀ j ∈ drct o, listed.getD j false = true) →
      ((List.range ops.length).filter fun i => !listed.getD i false).length ≤ fuel →
      aOps P m ops.toArray Q (Region.linearise.go .any ops.toArray fuel t listed []) (fillTo ops v (fun i => listed.getD i false) ts ops.length) (Hs (loud.takeWhile fun i => listed.getD i false).length) := by
  intro fuel
  -- all are done, or one is ready
  have hready : ∀ (listed : Array Bool), listed.size = ops.length → (∀ i, i < ops.length → listed.getD i false = false → ∃ i o, ops[i]? = some o ∧ listed.getD i false = false ∧ ∀ j ∈ drct o, listed.getD j false = true) := by
    intro listed hsz i
    induction i using Nat.strongRecOn with
    | ind i ih =>
      intro hi hl
      have hoi : ops[i]? = some ops[i] := List.getElem?_eq_getElem hi
      by_cases hd : ∀ j ∈ drct ops[i], listed.getD j false = true
      · exact ⟨i, ops[i], hoi, hl, hd⟩
      · simp only [Classical.not_forall] at hd
        obtain ⟨j, hj, hn⟩ := hd
        have hlt := O.lt i _ hoi j hj
        exact ih j hlt (by omega) (by simpa using hn)
  have hdone : ∀ (listed : Array Bool), listed.size = ops.length → (∀ i, i < ops.length → listed.getD i false = true) → 
      Q .normal (fillTo ops v (fun i => listed.getD i false) ts ops.length) (Hs (loud.takeWhile fun i => listed.getD i false).length) := by
    intro listed hsz hall
    have e1 : fillTo ops v (fun i => listed.getD i false) ts ops.length = fillTo ops v (fun _ => true) ts ops.length := by
      apply List.ext_getElem?
      intro d
      exact (fillTo_agree (d := d) ops.length (fun j hj o _ _ => hall j hj)).1
    have e2 : (loud.takeWhile fun i => listed.getD i false).length = loud.length := by
      apply takeWhile_len
      · intro q hq
        exact ⟨loud[q], List.getElem?_eq_getElem hq, hall _ (hin _ (List.getElem_mem hq))⟩
      · intro x hx; simp at hx
    rw [e1, e2]; exact hQ
  have hmem : ∀ (listed : Array Bool) (i : Nat), listed.size = ops.length → (i ∈ ((List.range ops.toArray.size).filter fun i => !listed.getD i true && ((ops.toArray[i]?).map (·.after.all fun e => !Region.binds .any e || listed.getD e.on false)).getD false) ↔
      ∃ o, ops[i]? = some o ∧ listed.getD i false = false ∧ ∀ j ∈ drct o, listed.getD j false = true) := by
    intro listed i hsz
    simp only [List.size_toArray, List.mem_filter, List.mem_range, Bool.and_eq_true, Bool.not_eq_true', List.getElem?_toArray]
    constructor
    · rintro ⟨hi, hl, ha⟩
      have hoi : ops[i]? = some ops[i] := List.getElem?_eq_getElem hi
      refine ⟨ops[i], hoi, ?_, ?_⟩
      · simp only [Array.getD_eq_getD_getElem?] at hl ⊢
        rw [Array.getElem?_eq_getElem (by omega)] at hl ⊢
        simpa using hl
      · rw [hoi] at ha
        simp only [Option.map_some, Option.getD_some] at ha
        intro j hj
        unfold drct at hj
        simp only [List.mem_map, List.mem_filter] at hj
        obtain ⟨e, ⟨he, hb⟩, rfl⟩ := hj
        have := (Array.all_eq_true_iff_forall_mem.1 ha) e (by simpa using he)
        simpa [hb] using this
    · rintro ⟨o, ho, hl, hd⟩
      have hi := (List.getElem?_eq_some_iff.1 ho).1
      refine ⟨hi, ?_, ?_⟩
      · simp only [Array.getD_eq_getD_getElem?] at hl ⊢
        rw [Array.getElem?_eq_getElem (by omega)] at hl ⊢
        simpa using hl
      · rw [ho]
        simp only [Option.map_some, Option.getD_some]
        apply Array.all_eq_true_iff_forall_mem.2
        intro e he
        cases hb : Region.binds .any e with
        | false => rfl
        | true =>
          simp only [Bool.not_true, Bool.false_or]
          exact hd e.on (by unfold drct; simp only [List.mem_map, List.mem_filter]; exact ⟨e, ⟨by simpa using he, hb⟩, rfl⟩)
  induction fuel with
  | zero =>
    intro t listed hsz hcl hcnt
    simp only [Region.linearise.go, List.reverse_nil, aOps]
    refine hdone listed hsz fun i hi => ?_
    have : ((List.range ops.length).filter fun i => !listed.getD i false) = [] := List.eq_nil_of_length_eq_zero (by omega)
    have := List.filter_eq_nil_iff.1 this i (by simpa using hi)
    simpa using this
  | succ fuel ih =>
    intro t listed hsz hcl hcnt
    simp only [Region.linearise.go]
    generalize hrs : ((List.range ops.toArray.size).filter fun i => !listed.getD i true && ((ops.toArray[i]?).map (·.after.all fun e => !Region.binds .any e || listed.getD e.on false)).getD false) = rs
    split
    · rename_i i hi
      have him : i ∈ rs := List.mem_of_getElem? hi
      rw [← hrs] at him
      obtain ⟨o, ho, hl, hd⟩ := (hmem listed i hsz).1 him
      rw [linearise_go_acc, List.reverse_singleton, List.singleton_append]
      simp only [aOps, List.getElem?_toArray, ho]
      have hin' : i < ops.length := (List.getElem?_eq_some_iff.1 ho).1
      have hcl' : ∀ k ok, ops[k]? = some ok → listed.getD k false = true → ∀ a, tb k a → listed.getD a false = true := fun k ok hk hs => O.closed hcl k ok hk (hcl k ok hk hs)
      have hcli : ∀ a, tb i a → listed.getD a false = true := O.closed hcl i o ho hd
      have hlo : ∀ l ∈ loud, ∃ ol, ops[l]? = some ol := fun l hl => ⟨ops[l]'(hin l hl), List.getElem?_eq_getElem _⟩
      have htb : ∀ x y, x ∈ loud → y ∈ loud → x < y → tb y x := fun x y hx hy hlt => by
        obtain ⟨ox, hox⟩ := hlo x hx
        obtain ⟨oy, hoy⟩ := hlo y hy
        refine Classical.byContradiction fun hn => ?_
        exact (O.ap x y ox oy hlt hox hoy hn).2.2 ⟨hx, hy⟩
      generalize hh : (loud.takeWhile fun i => listed.getD i false).length = h
      have hpre : ∀ (q l : Nat), loud[q]? = some l → (listed.getD l false = true ↔ q < h) := by
        intro q l hq
        constructor
        · intro hs
          refine Classical.byContradiction fun hn => ?_
          have hlen : h < loud.length := by have := (List.getElem?_eq_some_iff.1 hq).1; omega
          have hx : loud[h]? = some loud[h] := List.getElem?_eq_getElem hlen
          have hxs := takeWhile_stop (S := fun i => listed.getD i false) (l := loud) (x := loud[h]) (by rw [hh]; exact hx)
          have hqe : q = h ∨ h < q := by omega
          rcases hqe with rfl | hlt
          · rw [hx] at hq; cases hq; rw [hs] at hxs; cases hxs
          · have hxl := hsort h q _ _ hlt hx hq
            obtain ⟨ol, hol⟩ := hlo l (List.mem_of_getElem? hq)
            have := hcl' l ol hol hs loud[h] (htb _ _ (List.getElem_mem hlen) (List.mem_of_getElem? hq) hxl)
            rw [hxs] at this; cases this
        · intro hlt
          obtain ⟨x, hx, hs⟩ := takeWhile_spec (S := fun i => listed.getD i false) (l := loud) (q := q) (by omega)
          rw [hq] at hx; cases hx; exact hs
      have hw3 : i ∈ loud → loud[h]? = some i := by
        intro hil
        obtain ⟨q, hq⟩ := List.getElem?_of_mem hil
        have hnq : ¬ q < h := fun hlt => by have := (hpre q i hq).2 hlt; rw [hl] at this; cases this
        have hqe : q = h ∨ h < q := by omega
        rcases hqe with rfl | hlt
        · exact hq
        · exfalso
          have hlen : h < loud.length := by have := (List.getElem?_eq_some_iff.1 hq).1; omega
          have hx : loud[h]? = some loud[h] := List.getElem?_eq_getElem hlen
          have hxl := hsort h q _ _ hlt hx hq
          have := (hpre h _ hx).1 (hcli _ (htb _ _ (List.getElem_mem hlen) hil hxl))
          omega
      have hob := W.ob i o ho h (fun q l hq ht => (hpre q l hq).1 (hcli l ht)) (fun q l hq ht => by
        refine Classical.byContradiction fun hn => ?_
        have hs := (hpre q l hq).2 (by omega)
        obtain ⟨ol, hol⟩ := hlo l (List.mem_of_getElem? hq)
        have := hcl' l ol hol hs i ht
        rw [hl] at this; cases this) hw3 (by rw [← hh]; exact (List.takeWhile_sublist _).length_le)
      have hob2 : stepOk P m ops.toArray o (v i) (fillTo ops v (fun i => listed.getD i false) ts ops.length) (Hs h) (Hs (if i ∈ loud then h + 1 else h)) := by
        refine stepOk_reads (fun d hdr => ?_) hob
        refine (fillTo_agree (d := d) ops.length fun j hj oj hoj hdj => ?_).1
        rcases Nat.lt_trichotomy j i with hlt | rfl | hgt
        · simp only [hlt, decide_true]
          refine (Classical.byContradiction fun hn => ?_)
          have hnt : ¬ tb i j := fun ht => hn (hcli j ht).symm
          exact ((O.ap j i oj o hlt hoj ho hnt).1 d hdj).1 hdr
        · simp [hl]
        · have : decide (j < i) = false := by simp; omega
          rw [this]
          refine (Classical.byContradiction fun hn => ?_)
          have hs : listed.getD j false = true := by
            cases hx : listed.getD j false with
            | true => rfl
            | false => exact absurd hx.symm hn
          have hnt : ¬ tb j i := fun ht => by have := hcl' j oj hoj hs i ht; rw [hl] at this; cases this
          exact (O.ap i j o oj hgt ho hoj hnt).2.1 d hdj hdr
      have hS' : ∀ j, (listed.setIfInBounds i true).getD j false = (if j = i then true else listed.getD j false) := by
        intro j
        simp only [Array.getD_eq_getD_getElem?]
        by_cases hji : j = i
        · subst hji
          rw [if_pos rfl, Array.getElem?_setIfInBounds_self_of_lt (by omega)]; rfl
        · rw [if_neg hji, Array.getElem?_setIfInBounds_ne (fun e => hji e.symm)]
      refine aStep_of hob2 ?_
      have e1 := fillTo_insert (v := v) (ts := ts) (S := fun i => listed.getD i false) (S' := fun j => (listed.setIfInBounds i true).getD j false) ho hl hS' ops.length (by
        intro j hij hj hs oj hoj d hdi
        have hnt : ¬ tb j i := fun ht => by have := hcl' j oj hoj hs i ht; rw [hl] at this; cases this
        exact ((O.ap i j o oj hij ho hoj hnt).1 d hdi).2)
      rw [if_pos hin'] at e1
      have e2 : (loud.takeWhile fun j => (listed.setIfInBounds i true).getD j false).length = if i ∈ loud then h + 1 else h := by
        split
        · rename_i hil
          have hhi := hw3 hil
          apply takeWhile_len
          · intro q hq
            have hql : q < loud.length := by have := (List.getElem?_eq_some_iff.1 hhi).1; omega
            refine ⟨loud[q], List.getElem?_eq_getElem hql, ?_⟩
            simp only [hS']
            split
            · rfl
            · rename_i hne
              refine (hpre q _ (List.getElem?_eq_getElem hql)).2 ?_
              have : q ≠ h := fun e => by subst e; rw [List.getElem?_eq_getElem hql] at hhi; cases hhi; exact hne rfl
              omega
          · intro x hx
            simp only [hS']
            have hxi : i < x := hsort h (h + 1) i x (by omega) hhi hx
            rw [if_neg (by omega)]
            cases hsx : listed.getD x false with
            | false => rfl
            | true => have := (hpre (h + 1) x hx).1 hsx; omega
        · rename_i hil
          apply takeWhile_len
          · intro q hq
            obtain ⟨x, hx, hs⟩ := takeWhile_spec (S := fun i => listed.getD i false) (l := loud) (q := q) (by omega)
            refine ⟨x, hx, ?_⟩
            simp only [hS']
            split
            · rfl
            · exact hs
          · intro x hx
            simp only [hS']
            have hxl := List.mem_of_getElem? hx
            rw [if_neg (fun (e : x = i) => hil (e ▸ hxl))]
            exact takeWhile_stop (S := fun i => listed.getD i false) (l := loud) (by rw [hh]; exact hx)
      have hih := ih (t / rs.length) (listed.setIfInBounds i true) (by simp [hsz]) (by
        intro k ok hk hs j hj
        rw [hS'] at hs ⊢
        split
        · rfl
        · split at hs
          · rename_i hki; subst hki; rw [ho] at hk; cases hk; exact hd j hj
          · exact hcl k ok hk hs j hj) (by
        have := filter_lt (p := fun j => !listed.getD j false) (p' := fun j => !(listed.setIfInBounds i true).getD j false) (fun x hx => by
          simp only [hS'] at hx
          split at hx
          · cases hx
          · exact hx) (i := i) (by simp only [hl]; rfl) (by simp only [hS', if_true]; rfl) (List.range ops.length) (by simpa using hin')
        omega)
      rw [e2] at hih
      have e1' : fillTo ops v (fun i_1 => (listed.setIfInBounds i true).getD i_1 false) ts ops.length = aput o.dst (v i) (fillTo ops v (fun i => listed.getD i false) ts ops.length) := e1
      rw [e1'] at hih
      exact hih
    · rename_i hi
      simp only [List.reverse_nil, aOps]
      have hnil : rs = [] := by
        cases rs with
        | nil => rfl
        | cons x xs =>
          have hlt : t % (x :: xs).length < (x :: xs).length := Nat.mod_lt _ (by simp)
          rw [List.getElem?_eq_getElem hlt] at hi; cases hi
      refine hdone listed hsz fun i hi => ?_
      cases hl : listed.getD i false with
      | true => rfl
      | false =>
        obtain ⟨i', o', h1, h2, h3⟩ := hready listed hsz i hi hl
        have := (hmem listed i' hsz).2 ⟨o', h1, h2, h3⟩
        rw [hrs, hnil] at this; cases this

end Go.Proofs.YthhmioodienlmaaGreatDoor

/- The abstract machine, part 20: regions that draw their order, as a walk takes them. -/
namespace Go.Proofs.YthhmioodienlmaaGreatDoor
open Go

variable {P : Program} {G : List GI} {T : Tips} {K : Kmem} {w : World} {H H' : List HO}

/-- an operation whose outcome is one value and one heap -/
def aOpX (P : Program) (m : Bool) (o : Op) (ts : List AV) (H : List HO) (K : AV → List HO → Prop) : Prop :=
  match o with
  | .call ⟨.value _, _, _⟩ => ∃ v H', aOp P m o ts H (fun v' H2 => v' = v ∧ H2 = H') ∧ K v H'
  | .binOp _ t _ _ _ => eqK P t ≠ .sl ∧ aOp P m o ts H K
  | .next _ _ => False
  | .entry _ => False
  | o => aOp P m o ts H K

theorem aOpX_exact {m : Bool} {o : Op} {ts : List AV} {K : AV → List HO → Prop} (h : aOpX P m o ts H K) : ∃ v H', aOp P m o ts H (fun v' H2 => v' = v ∧ H2 = H') ∧ K v H' := by
  have hres : ∀ (r : Res), res r K → ∃ v H', res r (fun v' H2 => v' = v ∧ H2 = H') ∧ K v H' := by
    intro r h
    obtain ⟨x, H', h1, h2⟩ := res_some h
    exact ⟨x, H', by rw [h1]; exact ⟨rfl, rfl⟩, h2⟩
  have hresv : ∀ (r : Option AV), resv r H K → ∃ v H', resv r H (fun v' H2 => v' = v ∧ H2 = H') ∧ K v H' := by
    intro r h
    obtain ⟨x, h1, h2⟩ := resv_some h
    exact ⟨x, H, by rw [h1]; exact ⟨rfl, rfl⟩, h2⟩
  have hob : ∀ (t : TypeId) (f : TInf → Res), (obnd (tinfo P t) fun ti => res (f ti) K) → ∃ v H', (obnd (tinfo P t) fun ti => res (f ti) (fun v' H2 => v' = v ∧ H2 = H')) ∧ K v H' := by
    intro t f h
    obtain ⟨ti, h1, h2⟩ := obnd_some h
    obtain ⟨v, H', h3, h4⟩ := hres _ h2
    exact ⟨v, H', by rw [h1]; exact h3, h4⟩
  have hobM : ∀ (t : TypeId) (f : TInf → Res), (obnd (tinfo P t) fun ti => ti.isMap = true ∧ res (f ti) K) → ∃ v H', (obnd (tinfo P t) fun ti => ti.isMap = true ∧ res (f ti) (fun v' H2 => v' = v ∧ H2 = H')) ∧ K v H' := by
    intro t f h
    obtain ⟨ti, h1, h0, h2⟩ := obnd_some h
    obtain ⟨v, H', h3, h4⟩ := hres _ h2
    exact ⟨v, H', by rw [h1]; exact ⟨h0, h3⟩, h4⟩
  cases o <;> simp only [aOpX, aOp] at h ⊢ <;> try (exact h.elim)
  case move => exact ⟨_, _, ⟨rfl, rfl⟩, h⟩
  case assign => exact ⟨_, _, ⟨rfl, rfl⟩, h⟩
  case makeFunc => exact ⟨_, _, ⟨rfl, rfl⟩, h⟩
  case binOp op t x y t2 =>
    obtain ⟨h1, h2⟩ := h
    cases hk : eqK P t with
    | sl => exact absurd hk h1
    | bool => rw [hk] at h2; exact hres _ h2
    | ptr => rw [hk] at h2; exact hres _ h2
    | fn => rw [hk] at h2; exact hres _ h2
    | no => rw [hk] at h2; exact hres _ h2
  case call c =>
    obtain ⟨callee, args, ats⟩ := c
    cases callee with
    | value f => simpa only [aOp] using h
    | invoke _ _ => exact h.elim
    | builtin b =>
      simp only [aCall] at h ⊢
      unfold aBuiltin at h ⊢
      split at h
      · exact hres _ h
      · rename_i t t2 a b _ _
        obtain ⟨ti, h1, h2, h3, h4⟩ := obnd_some h
        have : ∃ v H', aAppend m (tinfo P ti.elem) a b H (fun v' H2 => v' = v ∧ H2 = H') ∧ K v H' := by
          unfold aAppend at h4 ⊢
          split at h4
          · rename_i e xs _ _
            obtain ⟨g1, g2, g3⟩ := h4
            split at g3
            · obtain ⟨k1, k2, k3⟩ := g3
              by_cases hm : m = true
              · rw [if_pos hm] at k3
                simp only [hm, if_true]
                by_cases hx : xs = []
                · rw [if_pos hx] at k3
                  simp only [if_pos hx]
                  exact ⟨_, _, ⟨g1, g2, k1, k2, k3.1, rfl, rfl⟩, k3.2⟩
                · rw [if_neg hx] at k3
                  simp only [if_neg hx]
                  exact ⟨_, _, ⟨g1, g2, k1, k2, rfl, rfl⟩, k3⟩
              · rw [if_neg hm] at k3
                simp only [if_neg hm]
                rcases k3 with k3 | ⟨j1, j2, k3⟩
                · exact ⟨_, _, ⟨g1, g2, k1, k2, .inl ⟨rfl, rfl⟩⟩, k3⟩
                · exact ⟨_, _, ⟨g1, g2, k1, k2, .inr ⟨j1, j2, rfl, rfl⟩⟩, k3⟩
            · obtain ⟨k1, k2, k3⟩ := g3
              exact ⟨_, _, ⟨g1, g2, k1, k2, rfl, rfl⟩, k3⟩
            · obtain ⟨es, k1, k2, k3⟩ := g3
              exact ⟨_, _, ⟨g1, g2, es, k1, k2, rfl, rfl⟩, k3⟩
            · obtain ⟨es, k1, k2, k3, k4, es', k5, k6, k7⟩ := g3
              exact ⟨_, _, ⟨g1, g2, es, k1, k2, k3, k4, es', k5, k6, rfl, rfl⟩, k7⟩
            · exact g3.elim
          · exact h4.elim
        obtain ⟨v, H', g1, g2⟩ := this
        exact ⟨v, H', by rw [h1]; exact ⟨h2, h3, g1⟩, g2⟩
      · exact hresv _ h
      · exact hresv _ h
      · exact hobM _ _ h
      · exact h.elim
  case makeMap t r =>
    cases r with
    | none => exact hres _ h
    | some _ => exact h.elim
  all_goals first
    | exact hres _ h
    | exact hresv _ h
    | exact hob _ _ h
    | exact hobM _ _ h

abbrev Rec := List (Oper × AV × List AV)

/-- the run in the text's order, with a record of the values and of the heaps -/
def aDraw (P : Program) (m : Bool) (ops : Array Oper) (fin : Rec → List (List HO) → List AV → List HO → Prop) : List Oper → List Bool → List AV → List HO → Rec → List (List HO) → Prop
  | [], _, ts, H, rc, past => fin rc (past ++ [H]) ts H
  | o :: l, fl, ts, H, rc, past =>
    aWant ops o ts
      (aOpX P m o.op ts H fun v H' => (fl.headD false = false → H' = H) ∧ aDraw P m ops fin l fl.tail (aput o.dst v ts) H' (rc ++ [(o, v, ts)]) (if fl.headD false = true then past ++ [H] else past))
      (aDraw P m ops fin l fl.tail (aput o.dst (.tup []) ts) H (rc ++ [(o, .tup [], ts)]) (if fl.headD false = true then past ++ [H] else past))

inductive Trace (P : Program) (m : Bool) (ops : Array Oper) : List Oper → List Bool → List AV → List HO → Rec → List (List HO) → List AV → List HO → Prop
  | nil {fl : List Bool} {ts : List AV} {H : List HO} : Trace P m ops [] fl ts H [] [] ts H
  | cons {o : Oper} {l : List Oper} {fl : List Bool} {ts ts' : List AV} {H H1 H' : List HO} {v : AV} {rc : Rec} {hs : List (List HO)} (h1 : stepOk P m ops o v ts H H1) (h2 : fl.headD false = false → H1 = H)
      (h3 : Trace P m ops l fl.tail (aput o.dst v ts) H1 rc hs ts' H') : Trace P m ops (o :: l) fl ts H ((o, v, ts) :: rc) ((if fl.headD false = true then [H] else []) ++ hs) ts' H'

theorem aDraw_trace {m : Bool} {ops : Array Oper} {fin : Rec → List (List HO) → List AV → List HO → Prop} : ∀ (l : List Oper) {fl : List Bool} {ts : List AV} {H : List HO} {rc : Rec} {past : List (List HO)},
    aDraw P m ops fin l fl ts H rc past → ∃ rc' hs ts' H', Trace P m ops l fl ts H rc' hs ts' H' ∧ fin (rc ++ rc') (past ++ hs ++ [H']) ts' H'
  | [], fl, ts, H, rc, past, h => ⟨[], [], ts, H, .nil, by simpa [aDraw] using h⟩
  | o :: l, fl, ts, H, rc, past, h => by
    simp only [aDraw] at h
    have key : ∃ v H1, stepOk P m ops o v ts H H1 ∧ (fl.headD false = false → H1 = H) ∧ aDraw P m ops fin l fl.tail (aput o.dst v ts) H1 (rc ++ [(o, v, ts)]) (if fl.headD false = true then past ++ [H] else past) := by
      unfold stepOk
      unfold aWant at h ⊢
      have yes : ∀ (_ : aOpX P m o.op ts H fun v H' => (fl.headD false = false → H' = H) ∧ aDraw P m ops fin l fl.tail (aput o.dst v ts) H' (rc ++ [(o, v, ts)]) (if fl.headD false = true then past ++ [H] else past)),
          ∃ v H1, aOp P m o.op ts H (fun v' H2 => v' = v ∧ H2 = H1) ∧ (fl.headD false = false → H1 = H) ∧ aDraw P m ops fin l fl.tail (aput o.dst v ts) H1 (rc ++ [(o, v, ts)]) (if fl.headD false = true then past ++ [H] else past) := fun h => by
        obtain ⟨v, H1, h1, h2⟩ := aOpX_exact h
        exact ⟨v, H1, h1, h2⟩
      cases hg : o.guard with
      | none => rw [hg] at h; exact yes h
      | some x =>
        obtain ⟨j, want⟩ := x
        rw [hg] at h
        simp only at h ⊢
        cases hd : (ops[j]?).bind (·.dst) with
        | none => rw [hd] at h; exact ⟨_, H, ⟨rfl, rfl⟩, fun _ => rfl, h⟩
        | some d =>
          rw [hd] at h
          simp only at h ⊢
          split at h
          · rename_i b hb
            by_cases hbw : b = want
            · obtain ⟨v, H1, h1, h2, h3⟩ := yes (h.1 hbw)
              exact ⟨v, H1, ⟨fun _ => h1, fun hn => absurd hbw hn⟩, h2, h3⟩
            · exact ⟨_, H, ⟨fun he => absurd he hbw, fun _ => ⟨rfl, rfl⟩⟩, fun _ => rfl, h.2 hbw⟩
          · exact ⟨_, H, ⟨rfl, rfl⟩, fun _ => rfl, h⟩
          · exact ⟨_, H, ⟨rfl, rfl⟩, fun _ => rfl, h⟩
          · exact h.elim
    obtain ⟨v, H1, h1, h2, h3⟩ := key
    obtain ⟨rc', hs, ts', H', k1, k2⟩ := aDraw_trace l h3
    refine ⟨_, _, ts', H', .cons h1 h2 k1, ?_⟩
    cases hf : fl.headD false with
    | true => rw [hf] at k2; simpa using k2
    | false => rw [hf] at k2; simpa using k2

/-- how many of the first k change objects -/
def hcnt (fl : List Bool) : Nat → Nat
  | 0 => 0
  | k + 1 => (if fl.headD false = true then 1 else 0) + hcnt fl.tail k

theorem Trace.heap0 {m : Bool} {ops : Array Oper} {l : List Oper} {fl : List Bool} {ts ts' : List AV} {H H' : List HO} {rc : Rec} {hs : List (List HO)} (h : Trace P m ops l fl ts H rc hs ts' H') : (hs ++ [H'])[0]? = some H := by
  induction h with
  | nil => rfl
  | cons h1 h2 h3 ih =>
    split
    · rfl
    · rename_i hf
      have := h2 (by simpa using hf)
      subst this
      simpa using ih

theorem Trace.hlast {m : Bool} {ops : Array Oper} {l : List Oper} {fl : List Bool} {ts ts' : List AV} {H H' : List HO} {rc : Rec} {hs : List (List HO)} (h : Trace P m ops l fl ts H rc hs ts' H') : ((hs ++ [H'])[hcnt fl l.length]?).getD [] = H' := by
  have : hs.length = hcnt fl l.length := by
    induction h with
    | nil => rfl
    | cons h1 h2 h3 ih =>
      simp only [List.length_append, List.length_cons, hcnt, ih]
      split <;> rfl
  rw [← this]; simp

theorem Trace.spec {m : Bool} {opsA : Array Oper} {ops : List Oper} {v : Nat → AV} {ts0 : List AV} {l : List Oper} {fl : List Bool} {ts ts' : List AV} {H H' : List HO} {rc : Rec} {hs : List (List HO)} (h : Trace P m opsA l fl ts H rc hs ts' H') :
    ∀ k, ops.drop k = l → ts = fillTo ops v (fun _ => true) ts0 k → (∀ j o w t, rc[j]? = some (o, w, t) → v (k + j) = w) →
      rc.length = l.length ∧ ts' = fillTo ops v (fun _ => true) ts0 (k + l.length) ∧ (∀ j o, ops[k + j]? = some o → ∃ Ha Hb, rc[j]? = some (o, v (k + j), fillTo ops v (fun _ => true) ts0 (k + j)) ∧ (hs ++ [H'])[hcnt fl j]? = some Ha ∧ (hs ++ [H'])[hcnt fl (j + 1)]? = some Hb ∧
        stepOk P m opsA o (v (k + j)) (fillTo ops v (fun _ => true) ts0 (k + j)) Ha Hb) := by
  induction h with
  | nil =>
    intro k hk hts _
    refine ⟨rfl, by simpa using hts, fun j o ho => ?_⟩
    have : ops.length ≤ k := by simpa using hk
    rw [List.getElem?_eq_none (by omega)] at ho; cases ho
  | @cons o l fl ts ts' H H1 H' w rc hs h1 h2 h3 ih =>
    intro k hk hts hv
    have hok : ops[k]? = some o := by have := congrArg (·[0]?) hk; simpa using this
    have hdk : ops.drop (k + 1) = l := by have := congrArg List.tail hk; simpa using this
    have hvk : v k = w := hv 0 o w ts rfl
    have hts1 : aput o.dst w ts = fillTo ops v (fun _ => true) ts0 (k + 1) := by simp only [fillTo, hok, if_true, hvk, hts]
    obtain ⟨i1, i2, i3⟩ := ih (k + 1) hdk hts1 (fun j o w t hj => by have := hv (j + 1) o w t (by simpa using hj); rwa [show k + 1 + j = k + (j + 1) by omega])
    refine ⟨by simp [i1], by rw [i2]; congr 1; simp; omega, fun j oj hoj => ?_⟩
    have hsplit : ∀ q, (((if fl.headD false = true then [H] else []) ++ hs) ++ [H'])[(if fl.headD false = true then 1 else 0) + q]? = (hs ++ [H'])[q]? := by
      intro q
      split
      · simp [List.getElem?_cons_succ, Nat.add_comm]
      · simp
    cases j with
    | zero =>
      simp only [Nat.add_zero] at hoj ⊢
      rw [hok] at hoj; cases hoj
      refine ⟨H, H1, by simp [hvk, hts], ?_, ?_, by rw [hvk, ← hts]; exact h1⟩
      · simp only [hcnt]
        exact (Trace.cons h1 h2 h3).heap0
      · simp only [hcnt]
        rw [hsplit]
        exact h3.heap0
    | succ j =>
      obtain ⟨Ha, Hb, r1, r2, r3, r4⟩ := i3 j oj (by rwa [show k + 1 + j = k + (j + 1) by omega])
      rw [show k + 1 + j = k + (j + 1) by omega] at r1 r4
      refine ⟨Ha, Hb, by simpa using r1, ?_, ?_, r4⟩
      · simp only [hcnt]; rw [hsplit]; exact r2
      · simp only [hcnt]; rw [hsplit]; exact r3

/-- which operations change objects -/
def louds (fl : List Bool) (n : Nat) : List Nat := (List.range n).filter fun i => (fl[i]?).getD false

def wind (loud : List Nat) (tbl : List (List Nat)) (i h : Nat) : Bool :=
  loud.zipIdx.all fun (l, q) => (!(((tbl[i]?).getD []).contains l) || decide (q < h)) && (!(((tbl[l]?).getD []).contains i) || decide (h ≤ q))

/-- the further heaps at which an operation may stand -/
def extras (fl : List Bool) (n : Nat) (tbl : List (List Nat)) : List (Nat × Nat) :=
  (List.range n).flatMap fun i => if (louds fl n).contains i then [] else ((List.range ((louds fl n).length + 1)).filter fun h => h != hcnt fl i && wind (louds fl n) tbl i h).map fun h => (i, h)

def exOk (P : Program) (m : Bool) (ops : Array Oper) (rc : Rec) (Hs : List (List HO)) : List (Nat × Nat) → Prop
  | [] => True
  | x :: ex => (match rc[x.1]?, Hs[x.2]? with | some (o, v, t), some Hx => stepOk P m ops o v t Hx Hx | _, _ => False) ∧ exOk P m ops rc Hs ex

def dfin (P : Program) (m : Bool) (ops : Array Oper) (ex : List (Nat × Nat)) (Q : AQ) : Rec → List (List HO) → List AV → List HO → Prop := fun rc Hs ts H => exOk P m ops rc Hs ex ∧ Q .normal ts H

theorem exOk_mem {m : Bool} {ops : Array Oper} {rc : Rec} {Hs : List (List HO)} : ∀ {ex : List (Nat × Nat)}, exOk P m ops rc Hs ex → ∀ x ∈ ex, match rc[x.1]?, Hs[x.2]? with | some (o, v, t), some Hx => stepOk P m ops o v t Hx Hx | _, _ => False
  | [], _, x, hx => by cases hx
  | y :: ex, h, x, hx => by
    simp only [exOk] at h
    rcases List.mem_cons.1 hx with rfl | hx
    · exact h.1
    · exact exOk_mem h.2 x hx

theorem fillTo_lt {ops : List Oper} {v : Nat → AV} {ts : List AV} {i : Nat} : ∀ k, fillTo ops v (fun j => decide (j < i)) ts k = fillTo ops v (fun _ => true) ts (min k i)
  | 0 => by simp [fillTo]
  | k + 1 => by
    have ih := fillTo_lt (ops := ops) (v := v) (ts := ts) (i := i) k
    by_cases hk : k < i
    · rw [show min (k + 1) i = k + 1 by omega]
      rw [show min k i = k by omega] at ih
      simp only [fillTo, ih]
      cases ops[k]? with
      | none => rfl
      | some o => simp [hk]
    · rw [show min (k + 1) i = i by omega]
      rw [show min k i = i by omega] at ih
      simp only [fillTo, ih]
      cases ops[k]? with
      | none => rfl
      | some o => simp [hk]

theorem hcnt_eq : ∀ (i : Nat) (fl : List Bool), hcnt fl i = ((List.range i).filter fun j => (fl[j]?).getD false).length
  | 0, fl => rfl
  | i + 1, fl => by
    simp only [hcnt]
    rw [hcnt_eq i fl.tail, List.range_succ_eq_map, List.filter_cons]
    have h0 : (fl[0]?).getD false = fl.headD false := by cases fl <;> rfl
    have hf : ((List.range i).map Nat.succ).filter (fun j => (fl[j]?).getD false) = ((List.range i).filter fun j => (fl.tail[j]?).getD false).map Nat.succ := by
      rw [List.filter_map]
      congr 1
      apply List.filter_congr
      intro j _
      cases fl <;> simp
    rw [hf, h0]
    split <;> simp <;> omega

theorem louds_mem {fl : List Bool} {n i : Nat} : i ∈ louds fl n ↔ i < n ∧ (fl[i]?).getD false = true := by simp [louds]

theorem louds_sort {fl : List Bool} {n : Nat} : ∀ (q q' l l' : Nat), q < q' → (louds fl n)[q]? = some l → (louds fl n)[q']? = some l' → l < l' := by
  intro q q' l l' hlt h1 h2
  have hp : (louds fl n).Pairwise (· < ·) := List.Pairwise.filter _ List.pairwise_lt_range
  obtain ⟨g1, rfl⟩ := List.getElem?_eq_some_iff.1 h1
  obtain ⟨g2, rfl⟩ := List.getElem?_eq_some_iff.1 h2
  exact (List.pairwise_iff_getElem.1 hp) q q' g1 g2 hlt

theorem louds_at {fl : List Bool} {n i : Nat} (hi : i ∈ louds fl n) : (louds fl n)[hcnt fl i]? = some i := by
  obtain ⟨h1, h2⟩ := louds_mem.1 hi
  rw [hcnt_eq]
  have hr : List.range n = List.range i ++ (i :: List.range' (i + 1) (n - i - 1)) := by
    rw [List.range_eq_range', List.range_eq_range']
    have : n = i + (1 + (n - i - 1)) := by omega
    conv => lhs; rw [this]
    rw [← List.range'_append_1, Nat.add_comm 1, List.range'_succ]
    simp
  unfold louds
  rw [hr, List.filter_append, List.getElem?_append_right (Nat.le_refl _), Nat.sub_self, List.filter_cons]
  simp [h2]

theorem louds_idx {fl : List Bool} {n i h : Nat} (hi : (louds fl n)[h]? = some i) : h = hcnt fl i := by
  have h2 := louds_at (List.mem_of_getElem? hi)
  rcases Nat.lt_trichotomy h (hcnt fl i) with hlt | he | hgt
  · have := louds_sort _ _ _ _ hlt hi h2; omega
  · exact he
  · have := louds_sort _ _ _ _ hgt h2 hi; omega

theorem hcnt_succ {fl : List Bool} {i n : Nat} (hi : i < n) : hcnt fl (i + 1) = if i ∈ louds fl n then hcnt fl i + 1 else hcnt fl i := by
  rw [hcnt_eq, hcnt_eq, List.range_succ, List.filter_append]
  by_cases hf : (fl[i]?).getD false = true
  · rw [if_pos (louds_mem.2 ⟨hi, hf⟩), List.filter_cons]; simp [hf]
  · rw [if_neg (fun h => hf (louds_mem.1 h).2), List.filter_cons]; simp [hf]

theorem awp_draw {m : Bool} {N id : Nat} {ops : List Oper} {Q : AQ} {ts : List AV} {H : List HO} (fl : List Bool) (ex : List (Nat × Nat)) (hm : P.follows .mixedOrders = true)
    (hp : (drawOk ops (louds fl ops.length) (mkTbl ops) && extras fl ops.length (mkTbl ops) == ex) = true) (h : aDraw P m ops.toArray (dfin P m ops.toArray ex Q) ops fl ts H [] []) :
    awp P m N (.region id ops.toArray true) Q ts H := by
  simp only [Bool.and_eq_true, beq_iff_eq] at hp
  obtain ⟨hp, hex⟩ := hp
  have O := Order.of_ok hp
  obtain ⟨rc, hs, ts', H', htr, hfin⟩ := aDraw_trace ops h
  simp only [List.nil_append, dfin] at hfin
  obtain ⟨hexok, hQ⟩ := hfin
  obtain ⟨v, hv⟩ : ∃ v : Nat → AV, ∀ (j : Nat) (o : Oper) (w : AV) (t : List AV), rc[j]? = some (o, w, t) → v j = w :=
    ⟨fun i => match rc[i]? with | some x => x.2.1 | none => .any, fun j o w t hj => by simp [hj]⟩
  have hspec := htr.spec (ops := ops) (v := v) (ts0 := ts) 0 (by simp) rfl (fun j o w t hj => by rw [Nat.zero_add]; exact hv j o w t hj)
  obtain ⟨s1, s2, s3⟩ := hspec
  simp only [Nat.zero_add] at s2 s3
  simp only [awp]
  intro t
  simp only [Region.schedule, hm, Bool.true_or, if_true, Region.linearise]
  have hW : Shown P m ops (louds fl ops.length) (fun i a => a ∈ ((mkTbl ops)[i]?).getD []) v ts (fun q => ((hs ++ [H'])[q]?).getD []) := by
    refine ⟨fun i o ho h w1 w2 w3 w4 => ?_⟩
    have hi : i < ops.length := (List.getElem?_eq_some_iff.1 ho).1
    rw [fillTo_lt, show min ops.length i = i by omega]
    obtain ⟨Ha, Hb, r1, r2, r3, r4⟩ := s3 i o ho
    by_cases hh : h = hcnt fl i
    · subst hh
      rw [r2, ← hcnt_succ hi, r3]
      exact r4
    · have hnl : i ∉ louds fl ops.length := fun hl => hh (louds_idx (w3 hl))
      rw [if_neg hnl]
      have hmem : (i, h) ∈ ex := by
        rw [← hex]
        unfold extras
        simp only [List.mem_flatMap, List.mem_range]
        refine ⟨i, hi, ?_⟩
        rw [if_neg (by simpa using hnl)]
        simp only [List.mem_map, List.mem_filter, List.mem_range, Bool.and_eq_true, bne_iff_ne, ne_eq, Prod.mk.injEq, true_and, exists_eq_right]
        refine ⟨by omega, hh, ?_⟩
        unfold wind
        rw [List.all_eq_true]
        rintro ⟨l, q⟩ hlq
        rw [List.mem_zipIdx_iff_getElem?] at hlq
        simp only [Bool.and_eq_true, Bool.or_eq_true, Bool.not_eq_true', List.contains_eq_mem, decide_eq_false_iff_not, decide_eq_true_eq]
        refine ⟨?_, ?_⟩
        · by_cases hc : l ∈ ((mkTbl ops)[i]?).getD []
          · exact .inr (w1 q l hlq hc)
          · exact .inl hc
        · by_cases hc : i ∈ ((mkTbl ops)[l]?).getD []
          · exact .inr (w2 q l hlq hc)
          · exact .inl hc
      have := exOk_mem hexok _ hmem
      simp only [r1] at this
      split at this
      · rename_i o' v' t' Hx e1 e2
        cases e1
        rw [e2]
        exact this
      · exact this.elim
  have hfin := draw_go O louds_sort (fun l hl => (louds_mem.1 hl).1) hW (Q := Q) (by
    have hlen : (louds fl ops.length).length = hcnt fl ops.length := by rw [hcnt_eq]; rfl
    rw [← s2, hlen]
    have hl := htr.hlast
    rw [hl]
    exact hQ) ops.toArray.size t (Array.replicate ops.toArray.size false) (by simp) (fun i o ho hs => by
      have : (Array.replicate ops.toArray.size false).getD i false = false := by
        rw [Array.getD_eq_getD_getElem?, Array.getElem?_replicate]
        split <;> rfl
      rw [this] at hs; cases hs) (by
    rw [List.size_toArray]
    exact Nat.le_trans (List.length_filter_le _ _) (by simp))
  have hS : ∀ i, (Array.replicate ops.toArray.size false).getD i false = false := fun i => by
    rw [Array.getD_eq_getD_getElem?, Array.getElem?_replicate]
    split <;> rfl
  have e1 : fillTo ops v (fun i => (Array.replicate ops.toArray.size false).getD i false) ts ops.length = ts := by
    have : ∀ k, fillTo ops v (fun i => (Array.replicate ops.toArray.size false).getD i false) ts k = ts := by
      intro k
      induction k with
      | zero => rfl
      | succ k ih =>
        simp only [fillTo]
        rw [ih]
        cases ops[k]? with
        | none => rfl
        | some o => simp only [hS]; rfl
    exact this _
  have e2 : ((louds fl ops.length).takeWhile fun i => (Array.replicate ops.toArray.size false).getD i false).length = 0 := by
    apply takeWhile_len
    · intro q hq; omega
    · intro x _; exact hS x
  rw [e1, e2, htr.heap0] at hfin
  exact hfin

end Go.Proofs.YthhmioodienlmaaGreatDoor

/- The abstract machine, part 21: the rules by which a walk goes on, of guards and of drawn orders. -/
namespace Go.Proofs.YthhmioodienlmaaGreatDoor
open Go

variable {P : Program} {G : List GI} {T : Tips} {K : Kmem} {w : World} {H H' : List HO}

/-- the value that an operation's guard asks for -/
def gval (ops : List Oper) (ts : List AV) (j : Nat) : AV := match (ops[j]?).bind (·.dst) with | some d => (ts[d]?).getD (.tup []) | none => .tup []

theorem aWant_gval {ops : List Oper} {o : Oper} {ts : List AV} {yes no : Prop} {j : Nat} {want : Bool} (hg : o.guard = some (j, want)) :
    aWant ops.toArray o ts yes no = (match gval ops ts j with | .d (.bool b) => (b = want → yes) ∧ (b ≠ want → no) | .tup [] => no | _ => False) := by
  unfold aWant gval
  rw [hg]
  simp only [List.getElem?_toArray]
  cases (ops[j]?).bind (·.dst) with
  | none => rfl
  | some d =>
    simp only
    cases ts[d]? with
    | none => rfl
    | some v =>
      simp only [Option.getD_some]
      cases v with
      | d x => cases x <;> rfl
      | tup xs => cases xs <;> rfl
      | _ => rfl

theorem aRun_if {m : Bool} {ops : List Oper} {Q : AQ} {d : Option Tmp} {op : Op} {t : TypeId} {pos : String} {af : Array Edge} {j : Nat} {want : Bool} {l : List Oper} {ts : List AV} {H : List HO} :
    aRun P m ops.toArray Q (⟨d, op, t, pos, af, some (j, want)⟩ :: l) ts H = gwd P m ops.toArray Q l d op ts H want (gval ops ts j) := by
  simp only [aRun]
  rw [aWant_gval (j := j) (want := want) rfl]
  unfold gwd
  generalize gval ops ts j = c
  cases c with
  | d x => cases x <;> rfl
  | tup xs => cases xs <;> rfl
  | _ => rfl

theorem gwd_intro {m : Bool} {ops : Array Oper} {Q : AQ} {l : List Oper} {d : Option Tmp} {op : Op} {ts : List AV} {H : List HO} {want b : Bool} (hy : b = want → aOp P m op ts H (nxt P m ops Q l d ts)) (hn : b ≠ want → aRun P m ops Q l (aput d (.tup []) ts) H) :
    gwd P m ops Q l d op ts H want (.d (.bool b)) := ⟨hy, hn⟩

/-! ### drawn orders, where no operation has to be looked at again -/
def aDraw0 (P : Program) (m : Bool) (ops : Array Oper) (Q : AQ) : List Oper → List Bool → List AV → List HO → Prop
  | [], _, ts, H => Q .normal ts H
  | o :: l, fl, ts, H =>
    aWant ops o ts (aOpX P m o.op ts H fun v H' => (fl.headD false = false → H' = H) ∧ aDraw0 P m ops Q l fl.tail (aput o.dst v ts) H') (aDraw0 P m ops Q l fl.tail (aput o.dst (.tup []) ts) H)

theorem aOpX_mono {m : Bool} {o : Op} {ts : List AV} {K K' : AV → List HO → Prop} (h : aOpX P m o ts H K) (hk : ∀ v H, K v H → K' v H) : aOpX P m o ts H K' := by
  unfold aOpX at h ⊢
  split
  · obtain ⟨v, H', h1, h2⟩ := h; exact ⟨v, H', h1, hk _ _ h2⟩
  · exact ⟨h.1, aOp_mono h.2 hk⟩
  · exact h.elim
  · exact h.elim
  · rename_i h1 h2 h3 h4
    split at h
    · exact (h1 _ _ _ rfl).elim
    · exact (h2 _ _ _ _ _ rfl).elim
    · exact h.elim
    · exact h.elim
    · exact aOp_mono h hk

theorem aDraw0_aDraw {m : Bool} {ops : Array Oper} {Q : AQ} : ∀ (l : List Oper) {fl : List Bool} {ts : List AV} {H : List HO} (rc : Rec) (past : List (List HO)), aDraw0 P m ops Q l fl ts H → aDraw P m ops (dfin P m ops [] Q) l fl ts H rc past
  | [], fl, ts, H, rc, past, h => by simp only [aDraw, aDraw0, dfin, exOk] at h ⊢; exact ⟨trivial, h⟩
  | o :: l, fl, ts, H, rc, past, h => by
    simp only [aDraw, aDraw0] at h ⊢
    exact aWant_mono h (fun h => aOpX_mono h fun v H' h => ⟨h.1, aDraw0_aDraw l _ _ h.2⟩) (fun h => aDraw0_aDraw l _ _ h)

theorem awp_draw0 {m : Bool} {N id : Nat} {ops : List Oper} {Q : AQ} {ts : List AV} {H : List HO} (fl : List Bool) (hm : P.follows .mixedOrders = true)
    (hp : (drawOk ops (louds fl ops.length) (mkTbl ops) && extras fl ops.length (mkTbl ops) == []) = true) (h : aDraw0 P m ops.toArray Q ops fl ts H) : awp P m N (.region id ops.toArray true) Q ts H :=
  awp_draw fl [] hm hp (aDraw0_aDraw ops _ _ h)

/-- behind an operation that changes nothing -/
def nxtQ (P : Program) (m : Bool) (ops : Array Oper) (Q : AQ) (l : List Oper) (fl : List Bool) (d : Option Tmp) (ts : List AV) (H : List HO) (v : AV) (H' : List HO) : Prop := H' = H ∧ aDraw0 P m ops Q l fl (aput d v ts) H'
/-- behind an operation that may change objects -/
def nxtL (P : Program) (m : Bool) (ops : Array Oper) (Q : AQ) (l : List Oper) (fl : List Bool) (d : Option Tmp) (ts : List AV) (v : AV) (H' : List HO) : Prop := aDraw0 P m ops Q l fl (aput d v ts) H'
def gwdD (P : Program) (m : Bool) (ops : Array Oper) (Q : AQ) (l : List Oper) (f : Bool) (fl : List Bool) (d : Option Tmp) (op : Op) (ts : List AV) (H : List HO) (want : Bool) (c : AV) : Prop :=
  match c with
  | .d (.bool b) => (b = want → aOpX P m op ts H (if f = true then nxtL P m ops Q l fl d ts else nxtQ P m ops Q l fl d ts H)) ∧ (b ≠ want → aDraw0 P m ops Q l fl (aput d (.tup []) ts) H)
  | .tup [] => aDraw0 P m ops Q l fl (aput d (.tup []) ts) H
  | _ => False

theorem aDraw0_nil {m : Bool} {ops : Array Oper} {Q : AQ} {fl : List Bool} {ts : List AV} {H : List HO} : aDraw0 P m ops Q [] fl ts H = Q .normal ts H := by rfl
theorem aDraw0_q {m : Bool} {ops : Array Oper} {Q : AQ} {d : Option Tmp} {op : Op} {t : TypeId} {pos : String} {af : Array Edge} {l : List Oper} {fl : List Bool} {ts : List AV} {H : List HO} :
    aDraw0 P m ops Q (⟨d, op, t, pos, af, none⟩ :: l) (false :: fl) ts H = aOpX P m op ts H (nxtQ P m ops Q l fl d ts H) := by
  simp only [aDraw0, aWant, List.headD_cons, List.tail_cons, true_implies]
  rfl
theorem aDraw0_l {m : Bool} {ops : Array Oper} {Q : AQ} {d : Option Tmp} {op : Op} {t : TypeId} {pos : String} {af : Array Edge} {l : List Oper} {fl : List Bool} {ts : List AV} {H : List HO} :
    aDraw0 P m ops Q (⟨d, op, t, pos, af, none⟩ :: l) (true :: fl) ts H = aOpX P m op ts H (nxtL P m ops Q l fl d ts) := by
  simp only [aDraw0, aWant, List.headD_cons, List.tail_cons]
  congr 1
  funext v H'
  simp [nxtL]
theorem aDraw0_if {m : Bool} {ops : List Oper} {Q : AQ} {d : Option Tmp} {op : Op} {t : TypeId} {pos : String} {af : Array Edge} {j : Nat} {want f : Bool} {l : List Oper} {fl : List Bool} {ts : List AV} {H : List HO} :
    aDraw0 P m ops.toArray Q (⟨d, op, t, pos, af, some (j, want)⟩ :: l) (f :: fl) ts H = gwdD P m ops.toArray Q l f fl d op ts H want (gval ops ts j) := by
  simp only [aDraw0]
  rw [aWant_gval (j := j) (want := want) rfl]
  unfold gwdD
  have hk : (fun v H' => ((f :: fl).headD false = false → H' = H) ∧ aDraw0 P m ops.toArray Q l (f :: fl).tail (aput d v ts) H') = (if f = true then nxtL P m ops.toArray Q l fl d ts else nxtQ P m ops.toArray Q l fl d ts H) := by
    cases f
    · funext v H'; simp [nxtQ]
    · funext v H'; simp [nxtL]
  rw [hk]
  generalize gval ops ts j = c
  cases c with
  | d x => cases x <;> rfl
  | tup xs => cases xs <;> rfl
  | _ => rfl
theorem nxtQ_run {m : Bool} {ops : Array Oper} {Q : AQ} {l : List Oper} {fl : List Bool} {d : Option Tmp} {ts : List AV} {v : AV} {H : List HO} : nxtQ P m ops Q l fl d ts H v H = aDraw0 P m ops Q l fl (aput d v ts) H := by simp [nxtQ]
theorem nxtL_run {m : Bool} {ops : Array Oper} {Q : AQ} {l : List Oper} {fl : List Bool} {d : Option Tmp} {ts : List AV} {v : AV} {H' : List HO} : nxtL P m ops Q l fl d ts v H' = aDraw0 P m ops Q l fl (aput d v ts) H' := by rfl
theorem gwdD_yesQ {m : Bool} {ops : Array Oper} {Q : AQ} {l : List Oper} {fl : List Bool} {d : Option Tmp} {op : Op} {ts : List AV} {H : List HO} {b : Bool} : gwdD P m ops Q l false fl d op ts H b (.d (.bool b)) = aOpX P m op ts H (nxtQ P m ops Q l fl d ts H) := by simp [gwdD]
theorem gwdD_yesL {m : Bool} {ops : Array Oper} {Q : AQ} {l : List Oper} {fl : List Bool} {d : Option Tmp} {op : Op} {ts : List AV} {H : List HO} {b : Bool} : gwdD P m ops Q l true fl d op ts H b (.d (.bool b)) = aOpX P m op ts H (nxtL P m ops Q l fl d ts) := by simp [gwdD]
theorem gwdD_tf {m : Bool} {ops : Array Oper} {Q : AQ} {l : List Oper} {f : Bool} {fl : List Bool} {d : Option Tmp} {op : Op} {ts : List AV} {H : List HO} : gwdD P m ops Q l f fl d op ts H true (.d (.bool false)) = aDraw0 P m ops Q l fl (aput d (.tup []) ts) H := by simp [gwdD]
theorem gwdD_ft {m : Bool} {ops : Array Oper} {Q : AQ} {l : List Oper} {f : Bool} {fl : List Bool} {d : Option Tmp} {op : Op} {ts : List AV} {H : List HO} : gwdD P m ops Q l f fl d op ts H false (.d (.bool true)) = aDraw0 P m ops Q l fl (aput d (.tup []) ts) H := by simp [gwdD]
theorem gwdD_un {m : Bool} {ops : Array Oper} {Q : AQ} {l : List Oper} {f : Bool} {fl : List Bool} {d : Option Tmp} {op : Op} {ts : List AV} {H : List HO} {b : Bool} : gwdD P m ops Q l f fl d op ts H b (.tup []) = aDraw0 P m ops Q l fl (aput d (.tup []) ts) H := by rfl

/-- an operation that is no call, nor a comparison of slices, has one outcome -/
def oneWay : Op → Bool
  | .call ⟨.value _, _, _⟩ => false
  | .binOp _ _ _ _ _ => false
  | .next _ _ | .entry _ => false
  | _ => true
theorem aOpX_one {m : Bool} {o : Op} {ts : List AV} {K : AV → List HO → Prop} (h : oneWay o = true) : aOpX P m o ts H K = aOp P m o ts H K := by
  unfold aOpX
  split
  · cases h
  · cases h
  · cases h
  · cases h
  · rfl
def binX (ek : EqK) (op : BinOp) (x y : AV) (H : List HO) (K : AV → List HO → Prop) : Prop := ek ≠ .sl ∧ res (oBin ek op x y H) K
theorem aOpX_binOp {m : Bool} {op : BinOp} {t t2 : TypeId} {x y : Operand} {ts : List AV} {K : AV → List HO → Prop} : aOpX P m (.binOp op t x y t2) ts H K = binX (eqK P t) op (aev ts x) (aev ts y) H K := by
  simp only [aOpX, aOp, binX]
  cases eqK P t <;> simp
theorem binX_no {op : BinOp} {x y : AV} {K : AV → List HO → Prop} : binX .no op x y H K = res (oBin .no op x y H) K := by simp [binX]
theorem binX_bool {op : BinOp} {x y : AV} {K : AV → List HO → Prop} : binX .bool op x y H K = res (oBin .bool op x y H) K := by simp [binX]
theorem binX_ptr {op : BinOp} {x y : AV} {K : AV → List HO → Prop} : binX .ptr op x y H K = res (oBin .ptr op x y H) K := by simp [binX]
theorem binX_fn {op : BinOp} {x y : AV} {K : AV → List HO → Prop} : binX .fn op x y H K = res (oBin .fn op x y H) K := by simp [binX]
/-- a call in a drawn order: its contract says exactly what comes out -/
def callX (P : Program) (f : FuncId) (as : List AV) (H : List HO) (K : AV → List HO → Prop) : Prop := ∃ v H', ACalls P f as H (fun v' H2 => v' = v ∧ H2 = H') ∧ K v H'
theorem aOpX_call {m : Bool} {f : FuncId} {as : Array Operand} {tys : Array TypeId} {ts : List AV} {K : AV → List HO → Prop} : aOpX P m (.call ⟨.value (.func f), as, tys⟩) ts H K = callX P f (aevs ts as) H K := by
  simp only [aOpX, callX, aOp_call]
theorem callX_pure {f : FuncId} {as ps : List AV} {v : AV} {K : AV → List HO → Prop} (h : ACalls P f ps [] (fun x _ => x = v)) (hp : AV.pures? as = some ps) (hf : v.free = true) (hk : K v H) : callX P f as H K :=
  ⟨v, H, ACalls.pure h hp (fun x _ hx => by subst hx; exact ⟨hf, rfl, rfl⟩), hk⟩

theorem aOpX_move {m : Bool} {x : Operand} {ts : List AV} {K : AV → List HO → Prop} : aOpX P m (.move x) ts H K = K (aev ts x) H := by rfl
theorem aOpX_assign {m : Bool} {x : Operand} {ts : List AV} {K : AV → List HO → Prop} : aOpX P m (.assign x) ts H K = K (aev ts x) H := by rfl
theorem aOpX_pick {m : Bool} {a b c : Operand} {ts : List AV} {K : AV → List HO → Prop} : aOpX P m (.pick c a b) ts H K = aOp P m (.pick c a b) ts H K := by rfl
theorem aOpX_alloc {m : Bool} {t : TypeId} {ts : List AV} {K : AV → List HO → Prop} : aOpX P m (.alloc t) ts H K = aOp P m (.alloc t) ts H K := by rfl
theorem aOpX_box {m : Bool} {t : TypeId} {x : Operand} {ts : List AV} {K : AV → List HO → Prop} : aOpX P m (.box t x) ts H K = aOp P m (.box t x) ts H K := by rfl
theorem aOpX_build {m : Bool} {t : TypeId} {ps : Array (Nat × Operand)} {ts : List AV} {K : AV → List HO → Prop} : aOpX P m (.build t ps) ts H K = aOp P m (.build t ps) ts H K := by rfl
theorem aOpX_buildSlice {m : Bool} {t : TypeId} {n : Nat} {ps : Array (Nat × Operand)} {ts : List AV} {K : AV → List HO → Prop} : aOpX P m (.buildSlice t n ps) ts H K = aOp P m (.buildSlice t n ps) ts H K := by rfl
theorem aOpX_load {m : Bool} {t : TypeId} {x : Operand} {ts : List AV} {K : AV → List HO → Prop} : aOpX P m (.load t x) ts H K = aOp P m (.load t x) ts H K := by rfl
theorem aOpX_store {m : Bool} {t : TypeId} {x y : Operand} {ts : List AV} {K : AV → List HO → Prop} : aOpX P m (.store t x y) ts H K = aOp P m (.store t x y) ts H K := by rfl
theorem aOpX_nilCheck {m : Bool} {x : Operand} {ts : List AV} {K : AV → List HO → Prop} : aOpX P m (.nilCheck x) ts H K = aOp P m (.nilCheck x) ts H K := by rfl
theorem aOpX_unOp {m : Bool} {op : UnOp} {t : TypeId} {x : Operand} {ts : List AV} {K : AV → List HO → Prop} : aOpX P m (.unOp op t x) ts H K = aOp P m (.unOp op t x) ts H K := by rfl
theorem aOpX_convert {m : Bool} {s d : TypeId} {x : Operand} {ts : List AV} {K : AV → List HO → Prop} : aOpX P m (.convert s d x) ts H K = aOp P m (.convert s d x) ts H K := by rfl
theorem aOpX_makeFunc {m : Bool} {fn : Fn} {f c : Array Operand} {ts : List AV} {K : AV → List HO → Prop} : aOpX P m (.makeFunc fn f c) ts H K = aOp P m (.makeFunc fn f c) ts H K := by rfl
theorem aOpX_slice {m : Bool} {t : TypeId} {x : Operand} {lo hi mx : Option Operand} {ts : List AV} {K : AV → List HO → Prop} : aOpX P m (.slice t x lo hi mx) ts H K = aOp P m (.slice t x lo hi mx) ts H K := by rfl
theorem aOpX_makeSlice {m : Bool} {t : TypeId} {x y : Operand} {ts : List AV} {K : AV → List HO → Prop} : aOpX P m (.makeSlice t x y) ts H K = aOp P m (.makeSlice t x y) ts H K := by rfl
theorem aOpX_fieldAddr {m : Bool} {s : TypeId} {x : Operand} {f : Nat} {ts : List AV} {K : AV → List HO → Prop} : aOpX P m (.fieldAddr s x f) ts H K = aOp P m (.fieldAddr s x f) ts H K := by rfl
theorem aOpX_field {m : Bool} {s : TypeId} {x : Operand} {f : Nat} {ts : List AV} {K : AV → List HO → Prop} : aOpX P m (.field s x f) ts H K = aOp P m (.field s x f) ts H K := by rfl
theorem aOpX_indexAddr {m : Bool} {t : TypeId} {x i : Operand} {ts : List AV} {K : AV → List HO → Prop} : aOpX P m (.indexAddr t x i) ts H K = aOp P m (.indexAddr t x i) ts H K := by rfl
theorem aOpX_index {m : Bool} {t : TypeId} {x i : Operand} {ts : List AV} {K : AV → List HO → Prop} : aOpX P m (.index t x i) ts H K = aOp P m (.index t x i) ts H K := by rfl
theorem aOpX_extract {m : Bool} {x : Operand} {i : Nat} {ts : List AV} {K : AV → List HO → Prop} : aOpX P m (.extract x i) ts H K = aOp P m (.extract x i) ts H K := by rfl
theorem aOpX_builtin {m : Bool} {b : Builtin} {as : Array Operand} {tys : Array TypeId} {ts : List AV} {K : AV → List HO → Prop} : aOpX P m (.call ⟨.builtin b, as, tys⟩) ts H K = aOp P m (.call ⟨.builtin b, as, tys⟩) ts H K := by rfl

attribute [go_sem] aRun_if gval Option.bind_some aDraw0_nil aDraw0_q aDraw0_l aDraw0_if nxtQ_run nxtL_run gwdD_yesQ gwdD_yesL gwdD_tf gwdD_ft gwdD_un aOpX_binOp binX_no binX_bool binX_ptr binX_fn aOpX_call aOpX_move aOpX_assign aOpX_pick aOpX_alloc aOpX_box aOpX_build aOpX_buildSlice
  aOpX_load aOpX_store aOpX_nilCheck aOpX_unOp aOpX_convert aOpX_makeFunc aOpX_slice aOpX_makeSlice aOpX_fieldAddr aOpX_field aOpX_indexAddr aOpX_index aOpX_extract aOpX_builtin

end Go.Proofs.YthhmioodienlmaaGreatDoor

/- The abstract machine, part 22: to know less: values weakened, objects forgotten. -/
namespace Go.Proofs.YthhmioodienlmaaGreatDoor
open Go

variable {P : Program} {G : List GI} {T : Tips} {K : Kmem} {w : World} {H H' : List HO}

/-- one value says less than another, of any heap -/
def AV.le (a b : AV) : Prop := ∀ (G : List GI) (T : Tips) (K : Kmem) (v : Value), RelA G T K a v → RelA G T K b v

theorem AV.le_refl (a : AV) : a.le a := fun _ _ _ _ h => h
theorem AV.le_any (a : AV) : a.le .any := fun _ _ _ _ _ => by simp only [RelA]
theorem AV.le_toD {a : AV} {x : D} (h : a.toD = some x) : a.le (.d x) := fun _ _ _ _ r => by simp only [RelA]; exact toD_rel h r
theorem AV.le_pure {a b : AV} (h : a.pure? = some b) : a.le b := fun _ _ _ _ r => pure_rel a b _ h r

def lesA : List AV → List AV → Prop
  | [], bs => bs = []
  | a :: as, bs => ∃ b bs', bs = b :: bs' ∧ a.le b ∧ lesA as bs'

theorem lesA_rel : ∀ {as bs : List AV} {vs : List Value}, lesA as bs → RelAs G T K as vs → RelAs G T K bs vs
  | [], bs, vs, h, r => by simp only [lesA] at h; subst h; exact r
  | a :: as, bs, vs, h, r => by
    simp only [lesA] at h
    obtain ⟨b, bs', rfl, h1, h2⟩ := h
    simp only [RelAs] at r ⊢
    obtain ⟨v, ws, e, r1, r2⟩ := r
    exact ⟨v, ws, e, h1 _ _ _ _ r1, lesA_rel h2 r2⟩

theorem Weak.les {N : Nat} {ts ts' : List AV} (h : lesA ts ts') : Weak N ts H ts' H := fun G K _ _ hI hr hn => ⟨G, K, hI, lesA_rel h hr, Post.refl hn⟩

/-- an empty (or full) slice, about to grow -/
theorem Weak.mkvec {N : Nat} {ts : List AV} {t : Nat} {es : List (List D)} (sz : Nat) (ht : ts[t]? = some (.d (.sl true es))) (hu : ∀ e ∈ es, e.length = sz) :
    Weak N ts H (ts.set t (.vec H.length es.length es)) (H ++ [.tip es.length sz]) := fun G K w vs hI hr hn => by
  obtain ⟨j1, j2⟩ := hI.ghost es.length sz
  refine ⟨_, K, j1, ?_, j2.less hn⟩
  have hr' := RelAs.evo j2.kle j2.evo hr
  obtain ⟨v, hv, rv⟩ := hr.get ht
  have hset := hr'.set t (x := .vec H.length es.length es) (y := v) (by
    simp only [RelA, RelD] at rv ⊢
    obtain ⟨a, n, cap, rfl, rfl, r2, r3, r4, r5, r6⟩ := rv
    refine ⟨⟨a, _, cap, rfl, rfl, r2, (fun h => by cases h), r4, r5, fun ad e => ⟨(r6 ad e).1, (r6 ad e).2.1, (r6 ad e).2.2⟩⟩, .tip none, by rw [← hI.len]; simp, .inr ⟨es.length, sz, none, by simp [tipsOf], rfl, Nat.le_refl _, hu, fun _ => ⟨a, cap, rfl, .inl (by simpa using r3)⟩⟩⟩)
  rwa [list_set_same hv] at hset

def HO.inS (S : Nat → Prop) : HO → Prop
  | .cells cs => AV.inSs S cs
  | .map _ es => ∀ x ∈ es, x.2.inS S
  | .iter m _ _ _ _ => S m
  | .loop _ _ ts _ _ _ => AV.inSs S ts
  | _ => True

theorem tipsOf_take {n i : Nat} (hi : i < n) : tipsOf (H.take n) i = tipsOf H i := by
  unfold tipsOf
  rw [List.getElem?_take, if_pos hi]

/-- the newest objects are forgotten, where nothing names them -/
theorem Inv.drop (hI : Inv G K w H) (n : Nat) (hn : n ≤ H.length) (hH : ∀ o ∈ H.take n, o.inS (· < n)) : Inv (G.take n) K w (H.take n) ∧ ∀ N, N ≤ n → Post N G (tipsOf H) K w (G.take n) (tipsOf (H.take n)) K w := by
  have hl : n ≤ G.length := by rw [hI.len]; exact hn
  have hG : ∀ {i : Nat} {g : GI}, (G.take n)[i]? = some g → i < n ∧ G[i]? = some g := fun {i g} h => by
    rw [List.getElem?_take] at h
    split at h
    · exact ⟨by assumption, h⟩
    · cases h
  have hHt : ∀ {i : Nat} {o : HO}, (H.take n)[i]? = some o → i < n ∧ H[i]? = some o := fun {i g} h => by
    rw [List.getElem?_take] at h
    split at h
    · exact ⟨by assumption, h⟩
    · cases h
  have hconv : ∀ i, i < n → ∀ g, G[i]? = some g → ∃ g', (G.take n)[i]? = some g' ∧ evo1 g (tipsOf H i) g' (tipsOf (H.take n) i) := fun i hi g hg =>
    ⟨g, by rw [List.getElem?_take, if_pos hi, hg], by rw [tipsOf_take hi]; exact evo1.refl _ _⟩
  have hev : ∀ N, N ≤ n → Evo N G (tipsOf H) (G.take n) (tipsOf (H.take n)) := fun N hN i hi g hg => hconv i (by omega) g hg
  have hin : ∀ b, inB (G.take n) b → inB G b := fun b ⟨i, g, hg, hb⟩ => ⟨i, g, (hG hg).2, hb⟩
  refine ⟨⟨hI.agree, hI.glob, by simp [hI.len], ?_, fun i j gi gj b h1 h2 h3 h4 => hI.apart i j gi gj b (hG h1).2 (hG h2).2 h3 h4, ?_⟩, fun N hN => ⟨by simp; omega, hev N hN, Kle.refl _, (fun b o v h1 h2 => by rw [h1] at h2; cases h2), fun b hb => .inl (hin b hb), Nat.le_refl _, fun _ _ _ => rfl, rfl, rfl, rfl⟩⟩
  · intro i o g ho hg
    obtain ⟨hi, ho'⟩ := hHt ho
    have hrel := hI.obj i o g ho' (hG hg).2
    have hS := hH o (List.mem_of_getElem? ho)
    cases o with
    | cells cs =>
      cases g <;> simp only [ObjRel] at hrel ⊢
      obtain ⟨⟨vs, t, fr, h1, h2, h3, h5, h6⟩, h4⟩ := hrel
      exact ⟨⟨vs, t, fr, h1, h2, h3, h5, RelAs.conv (Kle.refl K) hconv _ _ hS h6⟩, h4⟩
    | map ck es =>
      cases g <;> simp only [ObjRel] at hrel ⊢
      obtain ⟨⟨ms, h1, h2⟩, h3⟩ := hrel
      exact ⟨⟨ms, h1, MapRel.conv (fun x hx v r => RelA.conv (Kle.refl K) hconv _ _ (hS x hx) r) h2⟩, h3⟩
    | iter m ck es todo cur =>
      cases g <;> simp only [ObjRel] at hrel ⊢
      obtain ⟨b, bs, seen, last, h1, h2, h3⟩ := hrel
      have hm : m < n := hS
      refine ⟨b, bs, seen, last, h1, ?_, h3⟩
      rw [List.getElem?_take, if_pos hm]; exact h2
    | tip k sz => cases g <;> simp only [ObjRel] at hrel ⊢ <;> (rename_i w0; cases w0 <;> simp only [ObjRel] at hrel ⊢ <;> exact hrel)
    | loop st j ts ps a c =>
      cases g <;> simp only [ObjRel] at hrel ⊢
      exact ⟨hrel.1, hrel.2.1, hrel.2.2.1, hrel.2.2.2.1, RelAs.conv (Kle.refl K) hconv _ _ hS hrel.2.2.2.2⟩
    | row n sz es =>
      cases g <;> simp only [ObjRel] at hrel ⊢
      rename_i w0
      cases w0 with
      | none => simp only [ObjRel] at hrel ⊢; exact hrel
      | some x =>
        obtain ⟨b, cap⟩ := x
        simp only [ObjRel] at hrel ⊢
        obtain ⟨⟨vs, t, fr, h1, h2, h3, h4, h5, h6⟩, h7, h8⟩ := hrel
        exact ⟨⟨vs, t, fr, h1, h2, h3, h4, h5, RelAs.ofD h6⟩, h7, h8⟩
    | dead => cases g <;> simp only [ObjRel] at hrel ⊢
  · intro i m ck es todo cur it snap ck' es' b bs h1 h2 h3 h4
    exact hI.walks i m ck es todo cur it snap ck' es' b bs (hHt h1).2 (hG h2).2 (hHt h3).2 (hG h4).2

theorem Weak.drop {N n : Nat} {ts : List AV} (hN : N ≤ n) (hn : n ≤ H.length) (hts : AV.inSs (· < n) ts) (hH : ∀ o ∈ H.take n, o.inS (· < n)) : Weak N ts H ts (H.take n) := fun G K w vs hI hr _ => by
  obtain ⟨j1, j2⟩ := hI.drop n hn hH
  refine ⟨G.take n, K, j1, ?_, j2 N hN⟩
  have hl : n ≤ G.length := by rw [hI.len]; exact hn
  exact RelAs.conv (Kle.refl K) (S := (· < n)) (fun i hi g hg => ⟨g, by rw [List.getElem?_take, if_pos hi, hg], by rw [tipsOf_take hi]; exact evo1.refl _ _⟩) _ _ hts hr

/-- an object that nobody writes any more: its pointer is pure data from now on -/
theorem Weak.freeze {N : Nat} {ts : List AV} {t id off : Nat} {cs : List AV} {ds : List D} (ht : ts[t]? = some (.ptr id off)) (hH : H[id]? = some (.cells cs)) (hd : toDs cs = some ds) :
    Weak N ts H (ts.set t (.d (.ptr (ds.drop off)))) (H.set id .dead) := fun G K w vs hI hr hn => by
  obtain ⟨b, n, ws, tt, fr, g1, g2, g3, g6, g7, g4, g5⟩ := hI.cells hH
  have hkl : Kle K (K.row b 0 cs.length ws) := Kle.row fun o _ _ => g5 o
  have hag : ∀ b' p v, K.row b 0 cs.length ws b' p = some v → w.cell? ⟨b', p, none⟩ = some v := fun b' p v hk => by
    cases hk0 : K b' p with
    | some u => have := hkl b' p u hk0; rw [hk] at this; cases this; exact hI.agree b' p v hk0
    | none =>
      obtain ⟨rfl, k1, k2⟩ := Kmem.row_new hk hk0
      rw [Kmem.row_at k1 k2] at hk
      rw [cell_of g2]; exact hk
  obtain ⟨j1, j2⟩ := hI.change (w' := w) (K' := K.row b 0 cs.length ws) id (g' := .dead) (o' := .dead) g1 hH (Nat.le_refl _) (fun _ _ _ => rfl) ⟨rfl, rfl, rfl⟩ (fun x hx => by simp [GI.blocks] at hx) hkl
    (fun b' p v h1 h2 => .inl (by obtain ⟨rfl, _⟩ := Kmem.row_new h1 h2; simp [GI.blocks])) hag (.inr rfl) (by simp only [ObjRel]) (hI.walks_set g1 hH (fun _ _ _ _ _ e => by cases e) (fun _ _ e => by cases e))
  refine ⟨_, _, j1, ?_, j2.less hn⟩
  obtain ⟨v, hv, rv⟩ := hr.get ht
  have hr' := RelAs.evo j2.kle j2.evo hr
  have hp := rv.ptr_cells g1
  subst hp
  have hset := hr'.set t (x := .d (.ptr (ds.drop off))) (y := .pointer (some ⟨b, off, none⟩)) (by
    simp only [RelA, RelD]
    refine ⟨b, off, rfl, RelCs.of_get fun i c hc => ?_⟩
    have hds := toDs_rel hd g4
    rw [List.getElem?_drop] at hc
    obtain ⟨u, hu, ru⟩ := hds.d_get hc
    rw [List.getElem?_take] at hu
    split at hu
    · rename_i hlt
      refine ⟨u, ?_, RelD.mono hkl _ _ ru⟩
      rw [Kmem.row_at (Nat.zero_le _) hlt]
      simpa using hu
    · cases hu)
  rwa [list_set_same hv] at hset

/-- an empty slice, about to grow, its elements to be moved -/
theorem Weak.mkrow {N : Nat} {ts : List AV} {t : Nat} (sz : Nat) (ht : ts[t]? = some (.d (.sl true []))) :
    Weak N ts H (ts.set t (.row H.length 0)) (H ++ [.row 0 sz []]) := fun G K w vs hI hr hn => by
  have hI' : Inv (G ++ [.row none]) K w (H ++ [.row 0 sz []]) ∧ Post G.length G (tipsOf H) K w (G ++ [.row none]) (tipsOf (H ++ [.row 0 sz []])) K w := hI.ghostRow sz
  obtain ⟨j1, j2⟩ := hI'
  refine ⟨_, K, j1, ?_, j2.less hn⟩
  have hr' := RelAs.evo j2.kle j2.evo hr
  obtain ⟨v, hv, rv⟩ := hr.get ht
  have hset := hr'.set t (x := .row H.length 0) (y := v) (by
    simp only [RelA, RelD] at rv ⊢
    obtain ⟨a, n, cap, rfl, rfl, r2, r3, r4, r5, r6⟩ := rv
    have hc : cap = 0 := by simpa using r3
    subst hc
    exact ⟨.row none, by rw [← hI.len]; simp, rfl, .inr ⟨0, 0, none, by simp [tipsOf], rfl, Nat.le_refl _, fun _ => .inl ⟨rfl, rfl, a, rfl⟩⟩⟩)
  rwa [list_set_same hv] at hset

/-- a row that is moved no more: pure data from now on -/
theorem Weak.freezeRow {N : Nat} {ts : List AV} {t id pos sz : Nat} {es : List (List D)} (ht : ts[t]? = some (.row id pos)) (hH : H[id]? = some (.row pos sz es)) (hu : ∀ e ∈ es, e.length = sz) :
    Weak N ts H (ts.set t (.d (.sl false es))) (H.set id .dead) := fun G K w vs hI hr hn => by
  obtain ⟨w0, hG, hobj, hT⟩ := hI.row hH
  obtain ⟨v, hv, rv⟩ := hr.get ht
  obtain ⟨_, hat⟩ := rv.row_at hI hH hG
  have hnw := hI.walks_set (g' := .dead) (o' := .dead) hG hH (fun _ _ _ _ _ e => by cases e) (fun _ _ e => by cases e)
  rcases hat rfl with ⟨rfl, h0, a, rfl, hsp⟩ | ⟨b, cap, rfl, rfl⟩
  · have hes : es = [] := List.eq_nil_of_length_eq_zero h0
    subst hes
    obtain ⟨j1, j2⟩ := hI.change (w' := w) (K' := K) id (g' := .dead) (o' := .dead) hG hH (Nat.le_refl _) (fun _ _ _ => rfl) ⟨rfl, rfl, rfl⟩ (fun x hx => by simp [GI.blocks] at hx) (Kle.refl K)
      (fun b p v g1 g2 => by rw [g1] at g2; cases g2) hI.agree (.inl rfl) (by simp only [ObjRel]) hnw
    refine ⟨_, _, j1, ?_, j2.less hn⟩
    have hset := (RelAs.evo j2.kle j2.evo hr).set t (x := .d (.sl false [])) (y := .slice a 0 0) (by
      simp only [RelA, RelD]
      exact ⟨a, 0, 0, rfl, rfl, Nat.le_refl _, (fun h => by cases h), Nat.zero_le _, fun _ => rfl, fun ad e => ⟨fun h => absurd rfl h, ⟨0, by simp⟩, by simp only [RelEs]⟩⟩)
    rwa [list_set_same hv] at hset
  · simp only [ObjRel] at hobj
    obtain ⟨⟨cs, tt, fr, b1, b2, b3, b4, b5, b6⟩, b7, b8⟩ := hobj
    have hfl := flatten_len b5
    have hcs : es.length * sz ≤ cap * sz := Nat.mul_le_mul_right _ b4
    have hkl : Kle K (K.row b 0 (es.length * sz) cs) := Kle.row fun o _ _ => b8 o
    have hag : ∀ b' p v, K.row b 0 (es.length * sz) cs b' p = some v → w.cell? ⟨b', p, none⟩ = some v := fun b' p v hk => by
      cases hk0 : K b' p with
      | some u => have := hkl b' p u hk0; rw [hk] at this; cases this; exact hI.agree b' p v hk0
      | none =>
        obtain ⟨rfl, k1, k2⟩ := Kmem.row_new hk hk0
        rw [Kmem.row_at k1 k2] at hk
        rw [cell_of b1]; exact hk
    obtain ⟨j1, j2⟩ := hI.change (w' := w) (K' := K.row b 0 (es.length * sz) cs) id (g' := .dead) (o' := .dead) hG hH (Nat.le_refl _) (fun _ _ _ => rfl) ⟨rfl, rfl, rfl⟩ (fun x hx => by simp [GI.blocks] at hx) hkl
      (fun b' p v h1 h2 => .inl (by obtain ⟨rfl, _⟩ := Kmem.row_new h1 h2; simp [GI.blocks])) hag (.inl rfl) (by simp only [ObjRel]) hnw
    refine ⟨_, _, j1, ?_, j2.less hn⟩
    have hset := (RelAs.evo j2.kle j2.evo hr).set t (x := .d (.sl false es)) (y := .slice (some ⟨b, 0, none⟩) es.length cap) (by
      simp only [RelA]
      exact RelD.of_row (G := G) (T := tipsOf H) (K := K) b5 b6 hkl (fun o ho => Kmem.row_at (Nat.zero_le _) ho) b4 (fun h => by cases h) b7)
    rwa [list_set_same hv] at hset

end Go.Proofs.YthhmioodienlmaaGreatDoor

/- Results freed of the function's own objects: pointers, rows and slices of its own become pure data. -/
namespace Go.Proofs.YthhmioodienlmaaGreatDoor
open Go

variable {P : Program} {G : List GI} {T : Tips} {K : Kmem} {w : World} {H H' : List HO}

/-! results that point to objects of the function's own -/
mutual
def AV.frz (id : Nat) (ds : List D) : AV → AV
  | .ptr i off => if i = id then .d (.ptr (ds.drop off)) else .ptr i off
  | .agg l => .agg (AV.frzs id ds l)
  | .tup l => .tup (AV.frzs id ds l)
  | a => a
def AV.frzs (id : Nat) (ds : List D) : List AV → List AV
  | [] => []
  | a :: l => a.frz id ds :: AV.frzs id ds l
end

mutual
theorem RelA.frz {G' : List GI} {T' : Tips} {K' : Kmem} {id : Nat} {ds : List D} {b : Nat} (hc : ∀ (a : AV) (v : Value), RelA G T K a v → RelA G' T' K' a v) (hp : ∀ (off : Nat) (v : Value), RelA G T K (.ptr id off) v → RelA G' T' K' (.d (.ptr (ds.drop off))) v) :
    ∀ (a : AV) (v : Value), RelA G T K a v → RelA G' T' K' (a.frz id ds) v
  | .ptr i off, v, r => by
    simp only [AV.frz]
    split
    · rename_i h; subst h; exact hp off v r
    · exact hc _ _ r
  | .agg l, v, r => by
    simp only [AV.frz, RelA] at r ⊢
    obtain ⟨vs, e, r⟩ := r
    exact ⟨vs, e, RelAs.frz (b := b) hc hp l _ r⟩
  | .tup l, v, r => by
    simp only [AV.frz, RelA] at r ⊢
    obtain ⟨vs, e, r⟩ := r
    exact ⟨vs, e, RelAs.frz (b := b) hc hp l _ r⟩
  | .d _, v, r | .fn _ _ _, v, r | .map _, v, r | .iter _, v, r | .vec _ _ _, v, r | .arr _ _ _ _, v, r | .row _ _, v, r | .rp _ _ _ _ _, v, r | .any, v, r => by simp only [AV.frz]; exact hc _ _ r
theorem RelAs.frz {G' : List GI} {T' : Tips} {K' : Kmem} {id : Nat} {ds : List D} {b : Nat} (hc : ∀ (a : AV) (v : Value), RelA G T K a v → RelA G' T' K' a v) (hp : ∀ (off : Nat) (v : Value), RelA G T K (.ptr id off) v → RelA G' T' K' (.d (.ptr (ds.drop off))) v) :
    ∀ (l : List AV) (vs : List Value), RelAs G T K l vs → RelAs G' T' K' (AV.frzs id ds l) vs
  | [], vs, r => by simpa only [AV.frzs, RelAs] using r
  | a :: l, vs, r => by
    simp only [AV.frzs, RelAs] at r ⊢
    obtain ⟨v, ws, e, r1, r2⟩ := r
    exact ⟨v, ws, e, RelA.frz (b := b) hc hp a v r1, RelAs.frz (b := b) hc hp l ws r2⟩
end

theorem Weak.frz {N : Nat} {ts : List AV} {id : Nat} {cs : List AV} {ds : List D} (hH : H[id]? = some (.cells cs)) (hd : toDs cs = some ds) : Weak N ts H (AV.frzs id ds ts) (H.set id .dead) := fun G K w vs hI hr hn => by
  obtain ⟨b, n, ws, tt, fr, g1, g2, g3, g6, g7, g4, g5⟩ := hI.cells hH
  have hkl : Kle K (K.row b 0 cs.length ws) := Kle.row fun o _ _ => g5 o
  have hag : ∀ b' p v, K.row b 0 cs.length ws b' p = some v → w.cell? ⟨b', p, none⟩ = some v := fun b' p v hk => by
    cases hk0 : K b' p with
    | some u => have := hkl b' p u hk0; rw [hk] at this; cases this; exact hI.agree b' p v hk0
    | none =>
      obtain ⟨rfl, k1, k2⟩ := Kmem.row_new hk hk0
      rw [Kmem.row_at k1 k2] at hk
      rw [cell_of g2]; exact hk
  obtain ⟨j1, j2⟩ := hI.change (w' := w) (K' := K.row b 0 cs.length ws) id (g' := .dead) (o' := .dead) g1 hH (Nat.le_refl _) (fun _ _ _ => rfl) ⟨rfl, rfl, rfl⟩ (fun x hx => by simp [GI.blocks] at hx) hkl
    (fun b' p v h1 h2 => .inl (by obtain ⟨rfl, _⟩ := Kmem.row_new h1 h2; simp [GI.blocks])) hag (.inr rfl) (by simp only [ObjRel]) (hI.walks_set g1 hH (fun _ _ _ _ _ e => by cases e) (fun _ _ e => by cases e))
  refine ⟨_, _, j1, RelAs.frz (b := b) (fun a v r => RelA.evo j2.kle j2.evo r) (fun off v r => ?_) ts vs hr, j2.less hn⟩
  have hp := r.ptr_cells g1
  subst hp
  simp only [RelA, RelD]
  refine ⟨b, off, rfl, RelCs.of_get fun i c hc => ?_⟩
  have hds := toDs_rel hd g4
  rw [List.getElem?_drop] at hc
  obtain ⟨u, hu, ru⟩ := hds.d_get hc
  rw [List.getElem?_take] at hu
  split at hu
  · rename_i hlt
    refine ⟨u, ?_, RelD.mono hkl _ _ ru⟩
    rw [Kmem.row_at (Nat.zero_le _) hlt]
    simpa using hu
  · cases hu

/-! rows, frozen where they are named -/
mutual
def AV.frzR (id n : Nat) (es : List (List D)) : AV → AV
  | .row i pos => if i = id ∧ pos = n then .d (.sl false es) else .row i pos
  | .agg l => .agg (AV.frzRs id n es l)
  | .tup l => .tup (AV.frzRs id n es l)
  | a => a
def AV.frzRs (id n : Nat) (es : List (List D)) : List AV → List AV
  | [] => []
  | a :: l => a.frzR id n es :: AV.frzRs id n es l
end
mutual
theorem RelA.frzR {G' : List GI} {T' : Tips} {K' : Kmem} {id n : Nat} {es : List (List D)} (hc : ∀ (a : AV) (v : Value), RelA G T K a v → RelA G' T' K' a v) (hp : ∀ (v : Value), RelA G T K (.row id n) v → RelA G' T' K' (.d (.sl false es)) v) :
    ∀ (a : AV) (v : Value), RelA G T K a v → RelA G' T' K' (a.frzR id n es) v
  | .row i pos, v, r => by
    simp only [AV.frzR]
    split
    · rename_i h; obtain ⟨rfl, rfl⟩ := h; exact hp v r
    · exact hc _ _ r
  | .agg l, v, r => by
    simp only [AV.frzR, RelA] at r ⊢
    obtain ⟨vs, e, r⟩ := r
    exact ⟨vs, e, RelAs.frzR hc hp l _ r⟩
  | .tup l, v, r => by
    simp only [AV.frzR, RelA] at r ⊢
    obtain ⟨vs, e, r⟩ := r
    exact ⟨vs, e, RelAs.frzR hc hp l _ r⟩
  | .d _, v, r | .fn _ _ _, v, r | .map _, v, r | .iter _, v, r | .vec _ _ _, v, r | .arr _ _ _ _, v, r | .ptr _ _, v, r | .rp _ _ _ _ _, v, r | .any, v, r => by simp only [AV.frzR]; exact hc _ _ r
theorem RelAs.frzR {G' : List GI} {T' : Tips} {K' : Kmem} {id n : Nat} {es : List (List D)} (hc : ∀ (a : AV) (v : Value), RelA G T K a v → RelA G' T' K' a v) (hp : ∀ (v : Value), RelA G T K (.row id n) v → RelA G' T' K' (.d (.sl false es)) v) :
    ∀ (l : List AV) (vs : List Value), RelAs G T K l vs → RelAs G' T' K' (AV.frzRs id n es l) vs
  | [], vs, r => by simpa only [AV.frzRs, RelAs] using r
  | a :: l, vs, r => by
    simp only [AV.frzRs, RelAs] at r ⊢
    obtain ⟨v, ws, e, r1, r2⟩ := r
    exact ⟨v, ws, e, RelA.frzR hc hp a v r1, RelAs.frzR hc hp l ws r2⟩
end

theorem Weak.frzR {N : Nat} {ts : List AV} {id n sz : Nat} {es : List (List D)} (hH : H[id]? = some (.row n sz es)) (hu : ∀ e ∈ es, e.length = sz) : Weak N ts H (AV.frzRs id n es ts) (H.set id .dead) := fun G K w vs hI hr hn => by
  obtain ⟨w0, hG, hobj, hT⟩ := hI.row hH
  have hnw := hI.walks_set (g' := .dead) (o' := .dead) hG hH (fun _ _ _ _ _ e => by cases e) (fun _ _ e => by cases e)
  cases w0 with
  | none =>
    simp only [ObjRel] at hobj
    subst hobj
    obtain ⟨j1, j2⟩ := hI.change (w' := w) (K' := K) id (g' := .dead) (o' := .dead) hG hH (Nat.le_refl _) (fun _ _ _ => rfl) ⟨rfl, rfl, rfl⟩ (fun x hx => by simp [GI.blocks] at hx) (Kle.refl K)
      (fun b p v g1 g2 => by rw [g1] at g2; cases g2) hI.agree (.inl rfl) (by simp only [ObjRel]) hnw
    refine ⟨_, _, j1, RelAs.frzR (fun a v r => RelA.evo j2.kle j2.evo r) (fun v r => ?_) ts vs hr, j2.less hn⟩
    obtain ⟨_, hat⟩ := r.row_at hI hH hG
    rcases hat rfl with ⟨_, h0, a, rfl⟩ | ⟨b, cap, h, _⟩
    · simp only [RelA, RelD]
      exact ⟨a, 0, 0, rfl, rfl, Nat.le_refl _, (fun h => by cases h), Nat.zero_le _, fun _ => rfl, fun ad e => ⟨fun h => absurd rfl h, ⟨0, by simp⟩, by simp only [RelEs]⟩⟩
    · cases h
  | some x =>
    obtain ⟨b, cap⟩ := x
    simp only [ObjRel] at hobj
    obtain ⟨⟨cs, tt, fr, b1, b2, b3, b4, b5, b6⟩, b7, b8⟩ := hobj
    have hkl : Kle K (K.row b 0 (es.length * sz) cs) := Kle.row fun o _ _ => b8 o
    have hag : ∀ b' p v, K.row b 0 (es.length * sz) cs b' p = some v → w.cell? ⟨b', p, none⟩ = some v := fun b' p v hk => by
      cases hk0 : K b' p with
      | some u => have := hkl b' p u hk0; rw [hk] at this; cases this; exact hI.agree b' p v hk0
      | none =>
        obtain ⟨rfl, k1, k2⟩ := Kmem.row_new hk hk0
        rw [Kmem.row_at k1 k2] at hk
        rw [cell_of b1]; exact hk
    obtain ⟨j1, j2⟩ := hI.change (w' := w) (K' := K.row b 0 (es.length * sz) cs) id (g' := .dead) (o' := .dead) hG hH (Nat.le_refl _) (fun _ _ _ => rfl) ⟨rfl, rfl, rfl⟩ (fun x hx => by simp [GI.blocks] at hx) hkl
      (fun b' p v h1 h2 => .inl (by obtain ⟨rfl, _⟩ := Kmem.row_new h1 h2; simp [GI.blocks])) hag (.inl rfl) (by simp only [ObjRel]) hnw
    refine ⟨_, _, j1, RelAs.frzR (fun a v r => RelA.evo j2.kle j2.evo r) (fun v r => ?_) ts vs hr, j2.less hn⟩
    obtain ⟨_, hat⟩ := r.row_at hI hH hG
    rcases hat rfl with ⟨h, _⟩ | ⟨b', cap', h, rfl⟩
    · cases h
    · cases h
      simp only [RelA]
      exact RelD.of_row (G := G) (T := tipsOf H) (K := K) b5 b6 hkl (fun o ho => Kmem.row_at (Nat.zero_le _) ho) b4 (fun h => by cases h) b7


/-! cells, frozen where they are named by a pointer or by a slice -/
mutual
def AV.frzC (id : Nat) (ds : List D) : AV → AV
  | .ptr i off => if i = id then .d (.ptr (ds.drop off)) else .ptr i off
  | .arr i off len sz => if i = id ∧ off + len * sz ≤ ds.length then .d (.sl false (chunk sz len ((ds.drop off).take (len * sz)))) else .arr i off len sz
  | .agg l => .agg (AV.frzCs id ds l)
  | .tup l => .tup (AV.frzCs id ds l)
  | a => a
def AV.frzCs (id : Nat) (ds : List D) : List AV → List AV
  | [] => []
  | a :: l => a.frzC id ds :: AV.frzCs id ds l
end
mutual
theorem RelA.frzC {G' : List GI} {T' : Tips} {K' : Kmem} {id : Nat} {ds : List D} (hc : ∀ (a : AV) (v : Value), RelA G T K a v → RelA G' T' K' a v) (hp : ∀ (off : Nat) (v : Value), RelA G T K (.ptr id off) v → RelA G' T' K' (.d (.ptr (ds.drop off))) v)
    (ha : ∀ (off len sz : Nat) (v : Value), off + len * sz ≤ ds.length → RelA G T K (.arr id off len sz) v → RelA G' T' K' (.d (.sl false (chunk sz len ((ds.drop off).take (len * sz))))) v) :
    ∀ (a : AV) (v : Value), RelA G T K a v → RelA G' T' K' (a.frzC id ds) v
  | .ptr i off, v, r => by
    simp only [AV.frzC]
    split
    · rename_i h; subst h; exact hp off v r
    · exact hc _ _ r
  | .arr i off len sz, v, r => by
    simp only [AV.frzC]
    split
    · rename_i h; obtain ⟨rfl, h⟩ := h; exact ha off len sz v h r
    · exact hc _ _ r
  | .agg l, v, r => by
    simp only [AV.frzC, RelA] at r ⊢
    obtain ⟨vs, e, r⟩ := r
    exact ⟨vs, e, RelAs.frzC hc hp ha l _ r⟩
  | .tup l, v, r => by
    simp only [AV.frzC, RelA] at r ⊢
    obtain ⟨vs, e, r⟩ := r
    exact ⟨vs, e, RelAs.frzC hc hp ha l _ r⟩
  | .d _, v, r | .fn _ _ _, v, r | .map _, v, r | .iter _, v, r | .vec _ _ _, v, r | .row _ _, v, r | .rp _ _ _ _ _, v, r | .any, v, r => by simp only [AV.frzC]; exact hc _ _ r
theorem RelAs.frzC {G' : List GI} {T' : Tips} {K' : Kmem} {id : Nat} {ds : List D} (hc : ∀ (a : AV) (v : Value), RelA G T K a v → RelA G' T' K' a v) (hp : ∀ (off : Nat) (v : Value), RelA G T K (.ptr id off) v → RelA G' T' K' (.d (.ptr (ds.drop off))) v)
    (ha : ∀ (off len sz : Nat) (v : Value), off + len * sz ≤ ds.length → RelA G T K (.arr id off len sz) v → RelA G' T' K' (.d (.sl false (chunk sz len ((ds.drop off).take (len * sz))))) v) :
    ∀ (l : List AV) (vs : List Value), RelAs G T K l vs → RelAs G' T' K' (AV.frzCs id ds l) vs
  | [], vs, r => by simpa only [AV.frzCs, RelAs] using r
  | a :: l, vs, r => by
    simp only [AV.frzCs, RelAs] at r ⊢
    obtain ⟨v, ws, e, r1, r2⟩ := r
    exact ⟨v, ws, e, RelA.frzC hc hp ha a v r1, RelAs.frzC hc hp ha l ws r2⟩
end

theorem Weak.frzC {N : Nat} {ts : List AV} {id : Nat} {cs : List AV} {ds : List D} (hH : H[id]? = some (.cells cs)) (hd : toDs cs = some ds) : Weak N ts H (AV.frzCs id ds ts) (H.set id .dead) := fun G K w vs hI hr hn => by
  obtain ⟨b, n, ws, tt, fr, g1, g2, g3, g6, g7, g4, g5⟩ := hI.cells hH
  have hkl : Kle K (K.row b 0 cs.length ws) := Kle.row fun o _ _ => g5 o
  have hag : ∀ b' p v, K.row b 0 cs.length ws b' p = some v → w.cell? ⟨b', p, none⟩ = some v := fun b' p v hk => by
    cases hk0 : K b' p with
    | some u => have := hkl b' p u hk0; rw [hk] at this; cases this; exact hI.agree b' p v hk0
    | none =>
      obtain ⟨rfl, k1, k2⟩ := Kmem.row_new hk hk0
      rw [Kmem.row_at k1 k2] at hk
      rw [cell_of g2]; exact hk
  obtain ⟨j1, j2⟩ := hI.change (w' := w) (K' := K.row b 0 cs.length ws) id (g' := .dead) (o' := .dead) g1 hH (Nat.le_refl _) (fun _ _ _ => rfl) ⟨rfl, rfl, rfl⟩ (fun x hx => by simp [GI.blocks] at hx) hkl
    (fun b' p v h1 h2 => .inl (by obtain ⟨rfl, _⟩ := Kmem.row_new h1 h2; simp [GI.blocks])) hag (.inr rfl) (by simp only [ObjRel]) (hI.walks_set g1 hH (fun _ _ _ _ _ e => by cases e) (fun _ _ e => by cases e))
  have hds := toDs_rel hd g4
  have key : ∀ (off i : Nat) (c : D), (ds.drop off)[i]? = some c → ∃ v, K.row b 0 cs.length ws b (off + i) = some v ∧ RelD (K.row b 0 cs.length ws) c v := by
    intro off i c hc
    rw [List.getElem?_drop] at hc
    obtain ⟨u, hu, ru⟩ := hds.d_get hc
    rw [List.getElem?_take] at hu
    split at hu
    · rename_i hlt
      refine ⟨u, ?_, RelD.mono hkl _ _ ru⟩
      rw [Kmem.row_at (Nat.zero_le _) hlt]
      simpa using hu
    · cases hu
  refine ⟨_, _, j1, RelAs.frzC (fun a v r => RelA.evo j2.kle j2.evo r) (fun off v r => ?_) (fun off len sz v hle r => ?_) ts vs hr, j2.less hn⟩
  · have hp := r.ptr_cells g1
    subst hp
    simp only [RelA, RelD]
    exact ⟨b, off, rfl, RelCs.of_get fun i c hc => key off i c hc⟩
  · obtain ⟨cap, hvv, hcap⟩ := r.arr_cells g1
    simp only [RelA] at r
    obtain ⟨g', hg', _, r⟩ := r
    rw [g1] at hg'; cases hg'
    rcases r with r | ⟨b', n', cap', r, hv', c1, c2, c3⟩
    · cases r
    · cases r
      subst hv'
      obtain ⟨hfl, hcl, hlen⟩ := chunk_spec (sz := sz) (n := len) (l := (ds.drop off).take (len * sz)) (by simp; omega)
      simp only [RelA, RelD]
      refine ⟨_, _, _, rfl, hcl.symm, by omega, (fun h => by cases h), c2, (fun h => by cases h), fun ad e => ?_⟩
      cases e
      refine ⟨fun _ => rfl, ⟨sz, hlen⟩, RelEs.of_get fun i c hc => ?_⟩
      rw [hfl, List.getElem?_take] at hc
      split at hc
      · exact key off i c hc
      · cases hc

end Go.Proofs.YthhmioodienlmaaGreatDoor

/- The data of the program's interfaces, as Lean sees them, and how they lie in memory's cells. -/
namespace Go.Proofs.YthhmioodienlmaaGreatDoor
open Go

mutual
inductive Ty where
  | mk (kind : Int) (module name : Str) (args : List Ty) (fields : List Fd)
inductive Fd where
  | mk (name : Str) (type : Ty) (opt : Bool)
end

def Ty.kind : Ty → Int | .mk k _ _ _ _ => k
def Ty.module : Ty → Str | .mk _ m _ _ _ => m
def Ty.name : Ty → Str | .mk _ _ n _ _ => n
def Ty.args : Ty → List Ty | .mk _ _ _ a _ => a
def Ty.fields : Ty → List Fd | .mk _ _ _ _ f => f
def Fd.name : Fd → Str | .mk n _ _ => n
def Fd.type : Fd → Ty | .mk _ t _ => t
def Fd.opt : Fd → Bool | .mk _ _ o => o

structure Pa where
  name : Str
  var : Int
  bound : Ty
structure TE where
  name : Str
  params : List Pa
  lower : Ty
  upper : Ty
structure VE where
  name : Str
  params : List Pa
  type : Ty
structure AE where
  name : Str
  module : Str
  target : Str
structure DE where
  name : Str
  note : Str
structure If where
  path : Str
  types : List TE
  values : List VE
  aliases : List AE
  depr : List DE

mutual
def Ty.enc : Ty → List D
  | .mk k m n as fs => [.int .i64 k, .str m, .str n, .sl false (Ty.encL as), .sl false (Fd.encL fs)]
def Ty.encL : List Ty → List (List D)
  | [] => []
  | t :: ts => t.enc :: Ty.encL ts
def Fd.enc : Fd → List D
  | .mk n t o => .str n :: (t.enc ++ [.bool o])
def Fd.encL : List Fd → List (List D)
  | [] => []
  | f :: fs => f.enc :: Fd.encL fs
end

def sl {α : Type} (f : α → List D) (l : List α) : D := .sl false (l.map f)
def strs (l : List Str) : D := .sl false (l.map fun s => [.str s])
def Pa.enc (p : Pa) : List D := [.str p.name, .int .i64 p.var] ++ p.bound.enc
def TE.enc (x : TE) : List D := [.str x.name, sl Pa.enc x.params] ++ x.lower.enc ++ x.upper.enc
def VE.enc (x : VE) : List D := [.str x.name, sl Pa.enc x.params] ++ x.type.enc
def AE.enc (x : AE) : List D := [.str x.name, .str x.module, .str x.target]
def DE.enc (x : DE) : List D := [.str x.name, .str x.note]
def If.enc (x : If) : List D := [.str x.path, sl TE.enc x.types, sl VE.enc x.values, sl AE.enc x.aliases, sl DE.enc x.depr]
abbrev Env := List If
def Env.enc (e : Env) : D := sl If.enc e
/-- a value of a struct's type -/
def agg (l : List D) : AV := .agg (l.map .d)

/-! normal forms -/
mutual
theorem Ty.enc_norm : ∀ t : Ty, D.normL t.enc = t.enc
  | .mk k m n as fs => by simp only [Ty.enc, D.normL, D.norm, Ty.encL_norm as, Fd.encL_norm fs]
theorem Ty.encL_norm : ∀ l : List Ty, D.normE (Ty.encL l) = Ty.encL l
  | [] => by simp only [Ty.encL, D.normE]
  | t :: ts => by simp only [Ty.encL, D.normE, Ty.enc_norm t, Ty.encL_norm ts]
theorem Fd.enc_norm : ∀ f : Fd, D.normL f.enc = f.enc
  | .mk n t o => by
    have h : ∀ a b : List D, D.normL (a ++ b) = D.normL a ++ D.normL b := fun a b => by induction a with | nil => rfl | cons x a ih => simp only [List.cons_append, D.normL, ih]
    simp only [Fd.enc, D.normL, D.norm, h, Ty.enc_norm t]
theorem Fd.encL_norm : ∀ l : List Fd, D.normE (Fd.encL l) = Fd.encL l
  | [] => by simp only [Fd.encL, D.normE]
  | f :: fs => by simp only [Fd.encL, D.normE, Fd.enc_norm f, Fd.encL_norm fs]
end

theorem D.normL_append (a b : List D) : D.normL (a ++ b) = D.normL a ++ D.normL b := by
  induction a with
  | nil => rfl
  | cons x a ih => simp only [List.cons_append, D.normL, ih]
theorem sl_norm {α : Type} {f : α → List D} {l : List α} (h : ∀ x, D.normL (f x) = f x) : D.norm (sl f l) = sl f l := by
  simp only [sl, D.norm]
  congr 1
  induction l with
  | nil => rfl
  | cons x l ih => simp only [List.map_cons, D.normE, h, ih]
theorem strs_norm {l : List Str} : D.norm (strs l) = strs l := sl_norm (f := fun s => [.str s]) fun x => rfl
theorem Pa.enc_norm (p : Pa) : D.normL p.enc = p.enc := by simp only [Pa.enc, D.normL_append, D.normL, D.norm, Ty.enc_norm]
theorem TE.enc_norm (x : TE) : D.normL x.enc = x.enc := by simp only [TE.enc, D.normL_append, D.normL, D.norm, Ty.enc_norm, sl_norm Pa.enc_norm]
theorem VE.enc_norm (x : VE) : D.normL x.enc = x.enc := by simp only [VE.enc, D.normL_append, D.normL, D.norm, Ty.enc_norm, sl_norm Pa.enc_norm]
theorem AE.enc_norm (x : AE) : D.normL x.enc = x.enc := by simp only [AE.enc, D.normL, D.norm]
theorem DE.enc_norm (x : DE) : D.normL x.enc = x.enc := by simp only [DE.enc, D.normL, D.norm]
theorem If.enc_norm (x : If) : D.normL x.enc = x.enc := by simp only [If.enc, D.normL, sl_norm TE.enc_norm, sl_norm VE.enc_norm, sl_norm AE.enc_norm, sl_norm DE.enc_norm, D.norm]
theorem Env.enc_norm (e : Env) : D.norm (Env.enc e) = Env.enc e := sl_norm If.enc_norm
theorem pures_d (l : List D) : AV.pures? (l.map .d) = some ((D.normL l).map .d) := by
  induction l with
  | nil => rfl
  | cons x l ih => simp only [List.map_cons, AV.pures?, AV.pure?, ih, Option.bind_some, Option.map_some, D.normL]
theorem pure_agg (l : List D) : AV.pure? (.agg (l.map .d)) = some (agg (D.normL l)) := by simp only [AV.pure?, pures_d, Option.map_some, agg]
theorem pure_d (x : D) : AV.pure? (.d x) = some (.d x.norm) := by simp only [AV.pure?]
theorem frees_d (l : List D) : AV.frees (l.map .d) = true := by
  induction l with
  | nil => rfl
  | cons x l ih => simp only [List.map_cons, AV.frees, AV.free, ih, Bool.and_self]
theorem free_agg (l : List D) : AV.free (agg l) = true := by simp only [agg, AV.free, frees_d]

end Go.Proofs.YthhmioodienlmaaGreatDoor
