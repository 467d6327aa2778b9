/- The abstract machine, part 12: arithmetic, strings, comparisons, conversions. -/
import Derived.Test.YthhmioodienlmaaGreatDoorKB
import Derived.Laws.Strings2
import Derived.Laws.StructEq
import Derived.Laws.Slices
import Derived.Laws.BytesString
import Derived.Laws.MakeOwn
set_option linter.unusedSimpArgs false
set_option linter.unusedVariables false
namespace Go.Proofs.YthhmioodienlmaaGreatDoor
open Go

variable {P : Program} {G : List GI} {T : Tips} {K : Kmem} {w : World} {H H' : List HO}

/-- how values of a type are compared -/
inductive EqK where
  | bool | ptr | sl | fn | no
  deriving DecidableEq

def eqK (P : Program) (t : TypeId) : EqK :=
  match P.underlying t with
  | some .bool => .bool
  | some (.pointer _) => .ptr
  | some (.slice _) => .sl
  | some (.func _ _ _) => .fn
  | _ => .no

def bitsOp (k : IntKind) (f : BitVec k.bits → BitVec k.bits → BitVec k.bits) (x y : Int) : D :=
  .int k (k.wrap (f (BitVec.ofInt k.bits x) (BitVec.ofInt k.bits y)).toNat)

def iBin (op : BinOp) (k k' : IntKind) (x y : Int) : Option D :=
  match op with
  | .shl => if y < 0 then none else some (.int k (k.wrap (x * 2 ^ (min y.toNat k.bits))))
  | .shr => if y < 0 then none else some (.int k (x.fdiv (2 ^ (min y.toNat k.bits))))
  | op => if k = k' then
    match op with
    | .add => some (.int k (k.wrap (x + y)))
    | .sub => some (.int k (k.wrap (x - y)))
    | .mul => some (.int k (k.wrap (x * y)))
    | .quo => if y = 0 then none else some (.int k (k.wrap (x.tdiv y)))
    | .rem => if y = 0 then none else some (.int k (x.tmod y))
    | .and => some (bitsOp k (· &&& ·) x y)
    | .or => some (bitsOp k (· ||| ·) x y)
    | .xor => some (bitsOp k (· ^^^ ·) x y)
    | .andNot => some (bitsOp k (fun a b => a &&& ~~~b) x y)
    | .eql => some (.bool (decide (x = y)))
    | .neq => some (.bool (decide (x ≠ y)))
    | .lss => some (.bool (decide (x < y)))
    | .leq => some (.bool (decide (x ≤ y)))
    | .gtr => some (.bool (decide (y < x)))
    | .geq => some (.bool (decide (y ≤ x)))
    | _ => none
    else none

def strLt (s t : Str) : Bool := Op.bytesLess s t

def sBin (op : BinOp) (s t : Str) : Option D :=
  match op with
  | .add => if s.length + t.length ≤ lim then some (.str (s ++ t)) else none
  | .eql => some (.bool (decide (s = t)))
  | .neq => some (.bool (decide (s ≠ t)))
  | .lss => some (.bool (strLt s t))
  | .leq => some (.bool (strLt s t || decide (s = t)))
  | .gtr => some (.bool (!(strLt s t || decide (s = t))))
  | .geq => some (.bool (!strLt s t))
  | _ => none

def bBin (op : BinOp) (a b : Bool) : Option D :=
  match op with
  | .eql => some (.bool (a == b))
  | .neq => some (.bool (!(a == b)))
  | _ => none

/-- two of pure data -/
def dBin (ek : EqK) (op : BinOp) (a b : D) : Option D :=
  match a, b with
  | .int k x, .int k' y => iBin op k k' x y
  | .str s, .str t => sBin op s t
  | .bool x, .bool y => if ek = .bool then bBin op x y else none
  | .ptr _, .con (.pointer none) => if ek = .ptr then bBin op true false else none
  | .con (.pointer none), .con (.pointer none) => if ek = .ptr then bBin op true true else none
  | .con .nilFunc, .con .nilFunc => if ek = .fn then bBin op true true else none
  | _, _ => none

def oBin (ek : EqK) (op : BinOp) (a b : AV) (H : List HO) : Res :=
  match a, b with
  | .d x, .d y => (dBin ek op x y).map fun r => (.d r, H)
  | .ptr id _, .d (.con (.pointer none)) => match hcells H id with | some _ => if ek = .ptr then (bBin op true false).map fun r => (.d r, H) else none | none => none
  | .fn _ _ _, .d (.con .nilFunc) => if ek = .fn then (bBin op true false).map fun r => (.d r, H) else none
  | _, _ => none

theorem iBin_run {t : TypeId} {op : BinOp} {k k' : IntKind} {x y : Int} {r : D} (h : iBin op k k' x y = some r) : ∃ v, (binOp op t (.int k x) (.int k' y)).run P w = .ok v w ∧ RelD K r v := by
  unfold iBin at h
  cases op <;> simp only at h
  case shl | shr =>
    split at h
    · cases h
    · rename_i hy
      simp only [Option.some.injEq] at h; subst h
      refine ⟨_, ?_, by simp only [RelD]; rfl⟩
      simp [binOp, Op.shift, hy]
  case quo | rem =>
    split at h
    · rename_i hk; subst hk
      split at h
      · cases h
      · rename_i hy
        simp only [Option.some.injEq] at h; subst h
        refine ⟨_, ?_, by simp only [RelD]; rfl⟩
        simp [binOp, Op.intDiv, hy]
    · cases h
  all_goals
    split at h
    · rename_i hk; subst hk
      simp only [Option.some.injEq] at h; subst h
      refine ⟨_, ?_, by simp only [bitsOp, RelD]; rfl⟩
      simp [binOp, Op.intArith, Op.intCmp, Op.intBits, bne] <;> rfl
    · cases h

theorem sBin_run {t : TypeId} {op : BinOp} {x y : Str} {r : D} (h : sBin op x y = some r) : ∃ v, (binOp op t (.string ⟨x.toArray⟩) (.string ⟨y.toArray⟩)).run P w = .ok v w ∧ RelD K r v := by
  have e1 : (x == y) = decide (x = y) := by by_cases h : x = y <;> simp [h]
  have e2 : ((ByteArray.mk x.toArray).toList == (ByteArray.mk y.toArray).toList) = decide (x = y) := by rw [ByteArray.toList_mk, ByteArray.toList_mk, e1]
  unfold sBin at h
  cases op <;> simp only at h
  case add =>
    split at h
    · rename_i hl
      simp only [Option.some.injEq] at h; subst h
      refine ⟨.string ⟨(x ++ y).toArray⟩, ?_, by simp only [RelD]; exact ⟨by trivial, by simpa using hl⟩⟩
      have hs : ∀ l : Str, (ByteArray.mk l.toArray).size = l.length := fun l => by simp [ByteArray.size]
      have hm : ¬ (((ByteArray.mk x.toArray).size + (ByteArray.mk y.toArray).size : Nat) : Int) > IntKind.i64.max := by
        rw [hs, hs]
        have : IntKind.i64.max = 9223372036854775807 := by decide
        rw [this]
        simp only [lim] at hl
        omega
      have ha : ByteArray.mk x.toArray ++ ByteArray.mk y.toArray = ⟨(x ++ y).toArray⟩ := by
        apply ByteArray.ext
        simp
      simp only [binOp, Op.stringOp]
      rw [if_neg hm, ha]; rfl
    · cases h
  all_goals
    first
    | cases h; done
    | (simp only [Option.some.injEq] at h; subst h
       refine ⟨_, ?_, by simp only [RelD]; rfl⟩
       simp only [binOp, Op.stringOp, e2, strLt]
       try simp only [ByteArray.toList_mk]
       try simp only [decide_not]
       rfl)

theorem eqIn_nil {t e : TypeId} (hu : P.underlying t = some (.pointer e)) (d : Nat) (a : Option Addr) : (Op.equalIn (d + 1) t (.pointer a) (.pointer none)).run P w = .ok a.isNone w := by
  cases a <;> simp [Op.equalIn, run_under hu]
def isNilF : Value → Bool | .nilFunc => true | _ => false
theorem eqIn_nilF {t : TypeId} {e1 e2 : Array TypeId} {e3 : Bool} (hu : P.underlying t = some (.func e1 e2 e3)) (d : Nat) {v : Value} (hv : v = .nilFunc ∨ ∃ f a b, v = .func f a b) :
    (Op.equalIn (d + 1) t v .nilFunc).run P w = .ok (isNilF v) w := by
  rcases hv with rfl | ⟨f, a, b, rfl⟩ <;> simp [Op.equalIn, run_under hu, isNilF]

theorem run_eql_nil {t e : TypeId} (hu : P.underlying t = some (.pointer e)) (a : Option Addr) : (binOp .eql t (.pointer a) (.pointer none)).run P w = .ok (.bool a.isNone) w := by
  have h1 : (Op.equalIn (9999 + 1) t (.pointer a) (.pointer none)).run P w = .ok a.isNone w := eqIn_nil hu _ a
  have h2 : binOp .eql t (.pointer a) (.pointer none) = (do pure (.bool (← Op.equalIn (9999 + 1) t (.pointer a) (.pointer none)))) := rfl
  rw [h2, Sem.run_bind, h1]; rfl
theorem run_neq_nil {t e : TypeId} (hu : P.underlying t = some (.pointer e)) (a : Option Addr) : (binOp .neq t (.pointer a) (.pointer none)).run P w = .ok (.bool (!a.isNone)) w := by
  have h1 : (Op.equalIn (9999 + 1) t (.pointer a) (.pointer none)).run P w = .ok a.isNone w := eqIn_nil hu _ a
  have h2 : binOp .neq t (.pointer a) (.pointer none) = (do pure (.bool (!(← Op.equalIn (9999 + 1) t (.pointer a) (.pointer none))))) := rfl
  rw [h2, Sem.run_bind, h1]; rfl
theorem run_eql_nilF {t : TypeId} {e1 e2 : Array TypeId} {e3 : Bool} (hu : P.underlying t = some (.func e1 e2 e3)) {v : Value} (hv : v = .nilFunc ∨ ∃ f a b, v = .func f a b) : (binOp .eql t v .nilFunc).run P w = .ok (.bool (isNilF v)) w := by
  have h1 : (Op.equalIn (9999 + 1) t v .nilFunc).run P w = .ok (isNilF v) w := eqIn_nilF hu _ hv
  have h2 : binOp .eql t v .nilFunc = (do pure (.bool (← Op.equalIn (9999 + 1) t v .nilFunc))) := by rcases hv with rfl | ⟨f, a, b, rfl⟩ <;> rfl
  rw [h2, Sem.run_bind, h1]; rfl
theorem run_neq_nilF {t : TypeId} {e1 e2 : Array TypeId} {e3 : Bool} (hu : P.underlying t = some (.func e1 e2 e3)) {v : Value} (hv : v = .nilFunc ∨ ∃ f a b, v = .func f a b) : (binOp .neq t v .nilFunc).run P w = .ok (.bool (!isNilF v)) w := by
  have h1 : (Op.equalIn (9999 + 1) t v .nilFunc).run P w = .ok (isNilF v) w := eqIn_nilF hu _ hv
  have h2 : binOp .neq t v .nilFunc = (do pure (.bool (!(← Op.equalIn (9999 + 1) t v .nilFunc)))) := by rcases hv with rfl | ⟨f, a, b, rfl⟩ <;> rfl
  rw [h2, Sem.run_bind, h1]; rfl

theorem dBin_run {t : TypeId} {op : BinOp} {a b : D} {u v : Value} {r : D} (h : dBin (eqK P t) op a b = some r) (ha : RelD K a u) (hb : RelD K b v) :
    ∃ z, (binOp op t u v).run P w = .ok z w ∧ RelD K r z := by
  unfold dBin at h
  split at h
  · simp only [RelD] at ha hb; subst ha; subst hb; exact iBin_run h
  · simp only [RelD] at ha hb; obtain ⟨rfl, _⟩ := ha; obtain ⟨rfl, _⟩ := hb; exact sBin_run h
  · simp only [RelD] at ha hb; subst ha; subst hb
    split at h
    · rename_i x y hk
      have hu : P.underlying t = some .bool := by
        unfold eqK at hk
        split at hk <;> first | assumption | cases hk
      unfold bBin at h
      split at h
      · cases h; exact ⟨.bool (x == y), by
          have h2 : binOp .eql t (.bool x) (.bool y) = (do pure (.bool (← Op.equalIn (9999 + 1) t (.bool x) (.bool y)))) := rfl
          rw [h2, Sem.run_bind, run_equalIn_bool' w _ t x y hu]; rfl, by simp only [RelD]⟩
      · cases h; exact ⟨.bool (!(x == y)), by
          have h2 : binOp .neq t (.bool x) (.bool y) = (do pure (.bool (!(← Op.equalIn (9999 + 1) t (.bool x) (.bool y))))) := rfl
          rw [h2, Sem.run_bind, run_equalIn_bool' w _ t x y hu]; rfl, by simp only [RelD]⟩
      · cases h
    · cases h
  · simp only [RelD] at ha hb
    obtain ⟨b, o, rfl, _⟩ := ha
    obtain ⟨rfl, _⟩ := hb
    split at h
    · rename_i hk
      obtain ⟨e, hu⟩ : ∃ e, P.underlying t = some (.pointer e) := by
        unfold eqK at hk
        split at hk <;> first | exact ⟨_, by assumption⟩ | cases hk
      unfold bBin at h
      split at h
      · cases h; exact ⟨_, run_eql_nil hu _, by simp [RelD]⟩
      · cases h; exact ⟨_, run_neq_nil hu _, by simp [RelD]⟩
      · cases h
    · cases h
  · simp only [RelD] at ha hb
    obtain ⟨rfl, _⟩ := ha
    obtain ⟨rfl, _⟩ := hb
    split at h
    · rename_i hk
      obtain ⟨e, hu⟩ : ∃ e, P.underlying t = some (.pointer e) := by
        unfold eqK at hk
        split at hk <;> first | exact ⟨_, by assumption⟩ | cases hk
      unfold bBin at h
      split at h
      · cases h; exact ⟨_, run_eql_nil hu _, by simp [RelD]⟩
      · cases h; exact ⟨_, run_neq_nil hu _, by simp [RelD]⟩
      · cases h
    · cases h
  · simp only [RelD] at ha hb
    obtain ⟨rfl, _⟩ := ha
    obtain ⟨rfl, _⟩ := hb
    split at h
    · rename_i hk
      obtain ⟨e1, e2, e3, hu⟩ : ∃ e1 e2 e3, P.underlying t = some (.func e1 e2 e3) := by
        unfold eqK at hk
        split at hk <;> first | exact ⟨_, _, _, by assumption⟩ | cases hk
      unfold bBin at h
      split at h
      · cases h; exact ⟨_, run_eql_nilF hu (.inl rfl), by simp [RelD, isNilF]⟩
      · cases h; exact ⟨_, run_neq_nilF hu (.inl rfl), by simp [RelD, isNilF]⟩
      · cases h
    · cases h
  · cases h

theorem oBin_run (hI : Inv G K w H) {t : TypeId} {op : BinOp} {a b x : AV} {u v : Value} (h : oBin (eqK P t) op a b H = some (x, H')) (ha : RelA G (tipsOf H) K a u) (hb : RelA G (tipsOf H) K b v) :
    H' = H ∧ ∃ z, (binOp op t u v).run P w = .ok z w ∧ RelA G (tipsOf H) K x z := by
  unfold oBin at h
  split at h
  · simp only [Option.map_eq_some_iff, Prod.mk.injEq] at h
    obtain ⟨r, h, rfl, rfl⟩ := h
    simp only [RelA] at ha hb
    obtain ⟨z, h1, h2⟩ := dBin_run (w := w) h ha hb
    exact ⟨rfl, z, h1, by simp only [RelA]; exact h2⟩
  · split at h
    · rename_i cs hc
      split at h
      · rename_i hk
        simp only [Option.map_eq_some_iff, Prod.mk.injEq] at h
        obtain ⟨r, h, rfl, rfl⟩ := h
        obtain ⟨b, n, vs, tt, fr, g1, _⟩ := hI.cells (hcells_spec hc)
        obtain rfl := ha.ptr_cells g1
        simp only [RelA, RelD] at hb
        obtain ⟨rfl, _⟩ := hb
        obtain ⟨e, hu⟩ : ∃ e, P.underlying t = some (.pointer e) := by
          unfold eqK at hk
          split at hk <;> first | exact ⟨_, by assumption⟩ | cases hk
        unfold bBin at h
        split at h
        · cases h; exact ⟨rfl, _, run_eql_nil hu _, by simp [RelA, RelD]⟩
        · cases h; exact ⟨rfl, _, run_neq_nil hu _, by simp [RelA, RelD]⟩
        · cases h
      · cases h
    · cases h
  · split at h
    · rename_i hk
      simp only [Option.map_eq_some_iff, Prod.mk.injEq] at h
      obtain ⟨r, h, rfl, rfl⟩ := h
      simp only [RelA, RelD] at ha hb
      obtain ⟨vs, ws, rfl, _⟩ := ha
      obtain ⟨rfl, _⟩ := hb
      obtain ⟨e1, e2, e3, hu⟩ : ∃ e1 e2 e3, P.underlying t = some (.func e1 e2 e3) := by
        unfold eqK at hk
        split at hk <;> first | exact ⟨_, _, _, by assumption⟩ | cases hk
      unfold bBin at h
      split at h
      · cases h; exact ⟨rfl, _, run_eql_nilF hu (.inr ⟨_, _, _, rfl⟩), by simp [RelA, RelD, isNilF]⟩
      · cases h; exact ⟨rfl, _, run_neq_nilF hu (.inr ⟨_, _, _, rfl⟩), by simp [RelA, RelD, isNilF]⟩
      · cases h
    · cases h
  · cases h

theorem guard_free {op : BinOp} {t : TypeId} {x y : Operand} {u v : Value} (hu : ∀ vs, u ≠ .agg vs) (hn : u ≠ .nilIface) : (eqGuard op t x y u v).run P w = .ok () w := by
  unfold eqGuard
  cases op <;> simp
  all_goals
    split
    · exact absurd rfl hn
    · exact absurd rfl (hu _)
    · rfl

theorem oBin_guard (hI : Inv G K w H) {t : TypeId} {ek : EqK} {op : BinOp} {a b x : AV} {p q : Operand} {u v : Value} (h : oBin ek op a b H = some (x, H')) (ha : RelA G (tipsOf H) K a u) :
    (eqGuard op t p q u v).run P w = .ok () w := by
  refine guard_free ?_ ?_
  · intro vs e
    subst e
    unfold oBin at h
    cases a with
    | d x => simp only [RelA] at ha; have := ha.oneCell; cases this
    | ptr id off =>
      simp only [RelA] at ha
      obtain ⟨g, _, h1, _⟩ := ha; cases h1
    | fn f c1 c2 => simp only [RelA] at ha; obtain ⟨_, _, e, _⟩ := ha; cases e
    | _ => simp at h
  · intro e
    subst e
    unfold oBin at h
    cases a with
    | d x =>
      simp only [RelA] at ha
      cases x with
      | con c =>
        simp only [RelD] at ha
        obtain ⟨rfl, _⟩ := ha
        cases b <;> simp [dBin] at h
      | _ => simp [RelD] at ha
    | ptr id off =>
      cases hc : hcells H id with
      | none =>
        exfalso
        revert h
        cases b with
        | d y => cases y with
          | con c => cases c with
            | pointer a => cases a <;> simp [hc]
            | _ => simp
          | _ => simp
        | _ => simp
      | some cs =>
        obtain ⟨b, n, vs, tt, fr, g1, _⟩ := hI.cells (hcells_spec hc)
        have := ha.ptr_cells g1
        cases this
    | fn f c1 c2 => simp only [RelA] at ha; obtain ⟨_, _, e, _⟩ := ha; cases e
    | _ => simp at h

end Go.Proofs.YthhmioodienlmaaGreatDoor

/- The abstract machine, part 13: slices cut, fields of values, conversions, unary operators. -/
namespace Go.Proofs.YthhmioodienlmaaGreatDoor
open Go

variable {P : Program} {G : List GI} {T : Tips} {K : Kmem} {w : World} {H H' : List HO}

def RelO (G : List GI) (T : Tips) (K : Kmem) : Option AV → Option Value → Prop
  | none, v => v = none
  | some a, v => ∃ u, v = some u ∧ RelA G T K a u

def sb (x : Option AV) (dflt : Nat) : Option Nat :=
  match x with
  | none => some dflt
  | some (.d (.int _ n)) => if 0 ≤ n then some n.toNat else none
  | _ => none

theorem sb_spec {x : Option AV} {d n : Nat} {v : Option Value} (h : sb x d = some n) (r : RelO G T K x v) : (x = none ∧ v = none ∧ n = d) ∨ ∃ k i, v = some (.int k i) ∧ 0 ≤ i ∧ n = i.toNat ∧ x.isSome = true := by
  unfold sb at h
  split at h
  · simp only [RelO] at r
    exact .inl ⟨rfl, r, by simpa using h.symm⟩
  · split at h
    · rename_i k i hi
      simp only [RelO, RelA, RelD] at r
      obtain ⟨u, rfl, rfl⟩ := r
      exact .inr ⟨k, i, rfl, hi, by simpa using h.symm, rfl⟩
    · cases h
  · cases h

/-- the bounds: low, high, and the new capacity's end (none: the old one) -/
def oBounds (len : Nat) (lo hi mx : Option AV) : Option (Nat × Nat × Option Nat) :=
  match mx with
  | none => (sb hi len).bind fun h => (sb lo 0).bind fun l => if l ≤ h ∧ h ≤ len then some (l, h, none) else none
  | some m => if hi.isSome = true then (sb (some m) 0).bind fun m => (sb hi len).bind fun h => (sb lo 0).bind fun l => if l ≤ h ∧ h ≤ m ∧ m ≤ len then some (l, h, some m) else none else none

theorem bounds_run {lo hi mx : Option AV} {vlo vhi vmx : Option Value} {len cap l h : Nat} {m : Option Nat} (hb : oBounds len lo hi mx = some (l, h, m)) (hlo : RelO G T K lo vlo) (hhi : RelO G T K hi vhi) (hmx : RelO G T K mx vmx)
    (hc : len ≤ cap) (isS : Bool) : (Instr.sliceBounds isS len cap vlo vhi vmx).run P w = .ok (l, h, m.getD cap) w ∧ l ≤ h ∧ h ≤ len ∧ (∀ x, m = some x → h ≤ x ∧ x ≤ len) := by
  unfold oBounds at hb
  cases mx with
  | none =>
    simp only [RelO] at hmx; subst hmx
    simp only [Option.bind_eq_some_iff] at hb
    obtain ⟨h', e1, l', e2, e3⟩ := hb
    split at e3
    · rename_i hh
      simp only [Option.some.injEq, Prod.mk.injEq] at e3
      obtain ⟨rfl, rfl, rfl⟩ := e3
      refine ⟨?_, hh.1, hh.2, fun x hx => (by cases hx)⟩
      rcases sb_spec e1 hhi with ⟨_, rfl, rfl⟩ | ⟨k, i, rfl, hi0, rfl, _⟩ <;> rcases sb_spec e2 hlo with ⟨_, rfl, rfl⟩ | ⟨k', i', rfl, hi0', rfl, _⟩
      · simp [Instr.sliceBounds]
      · simp [Instr.sliceBounds, run_sliceBound w k' i' h' _ hi0' (by omega)]
      · simp [Instr.sliceBounds, run_sliceBound w k i cap _ hi0 (by omega)]
      · simp [Instr.sliceBounds, run_sliceBound w k i cap _ hi0 (by omega), run_sliceBound w k' i' i.toNat _ hi0' (by omega)]
    · cases e3
  | some m0 =>
    by_cases his : hi.isSome = true
    · simp only [if_pos his] at hb
      simp only [Option.bind_eq_some_iff] at hb
      obtain ⟨m', e0, h', e1, l', e2, e3⟩ := hb
      split at e3
      · rename_i hh
        simp only [Option.some.injEq, Prod.mk.injEq] at e3
        obtain ⟨rfl, rfl, rfl⟩ := e3
        refine ⟨?_, hh.1, by omega, fun x hx => by cases hx; exact ⟨hh.2.1, hh.2.2⟩⟩
        rcases sb_spec e0 hmx with ⟨h1, _⟩ | ⟨km, im, rfl, hm0, rfl, _⟩
        · cases h1
        · rcases sb_spec e1 hhi with ⟨h1, _⟩ | ⟨k, i, rfl, hi0, rfl, _⟩
          · subst h1; cases his
          · rcases sb_spec e2 hlo with ⟨_, rfl, rfl⟩ | ⟨k', i', rfl, hi0', rfl, _⟩
            · simp [Instr.sliceBounds, run_sliceBound w km im cap _ hm0 (by omega), run_sliceBound w k i im.toNat _ hi0 (by omega)]
            · simp [Instr.sliceBounds, run_sliceBound w km im cap _ hm0 (by omega), run_sliceBound w k i im.toNat _ hi0 (by omega), run_sliceBound w k' i' i.toNat _ hi0' (by omega)]
      · cases e3
    · simp only [if_neg his] at hb
      cases hb

def oSlice (ti te : Option TInf) (a : AV) (lo hi mx : Option AV) (H : List HO) : Res :=
  match ti with
  | none => none
  | some t =>
    match a with
    | .d (.str s) => if t.isStr = true ∧ mx.isNone = true then (oBounds s.length lo hi mx).bind fun x => some (.d (.str ((s.drop x.1).take (x.2.1 - x.1))), H) else none
    | .d (.sl c es) => match te with
      | some e => if t.isSl = true ∧ (∀ x ∈ es, x.length = e.size) then (oBounds es.length lo hi mx).bind fun x => some (.d (.sl (match x.2.2 with | some m => decide (m = x.2.1) | none => c && decide (x.2.1 = es.length)) ((es.take x.2.1).drop x.1)), H) else none
      | none => none
    | .vec id pos es => match te with
      | some e => if t.isSl = true ∧ (∀ x ∈ es, x.length = e.size) then (oBounds es.length lo hi mx).bind fun x =>
          some (match hi, H[id]? with
            | none, some (.tip _ sz) => if sz = e.size then .vec id pos (es.drop x.1) else .d (.sl false (es.drop x.1))
            | _, _ => .d (.sl (match x.2.2 with | some m => decide (m = x.2.1) | none => false) ((es.take x.2.1).drop x.1)), H) else none
      | none => none
    | .arr id off len sz => match te, hcells H id with
      | some e, some _ => if t.isSl = true ∧ sz = e.size ∧ mx.isNone = true then (oBounds len lo hi mx).bind fun x =>
          some (if x.1 = 0 ∨ x.1 < x.2.1 then .arr id (off + x.1 * sz) (x.2.1 - x.1) sz else .d (.sl false []), H) else none
      | _, _ => none
    | _ => none

theorem run_slice_sl {t e : TypeId} {i : TypeInfo} (h2 : P.underlying t = some (.slice e)) (he : P.info? e = some i) {a : Option Addr} {len cap l h m : Nat} {vlo vhi vmx : Option Value}
    (hb : (Instr.sliceBounds true len cap vlo vhi vmx).run P w = .ok (l, h, m) w) :
    (Instr.sliceAt t (.slice a len cap) vlo vhi vmx).run P w = .ok (.slice (if m = l then a else a.map (·.add (l * i.size))) (h - l) (m - l)) w := by
  simp [Instr.sliceAt, Instr.slice, run_under h2, hb, run_sizeOf he]

theorem RelEs.drop {b o sz : Nat} {es : List (List D)} (h : RelEs K b o es) (hu : ∀ e ∈ es, e.length = sz) : ∀ l, l ≤ es.length → RelEs K b (o + l * sz) (es.drop l)
  | 0, _ => by simpa using h
  | l + 1, hl => by
    cases es with
    | nil => simp at hl
    | cons e es =>
      simp only [RelEs] at h
      have := RelEs.drop h.2 (fun x hx => hu x (by simp [hx])) l (by simpa using hl)
      rw [hu e (by simp)] at this
      rwa [show o + sz + l * sz = o + (l + 1) * sz by rw [Nat.add_mul]; omega] at this

theorem RelEs.take {b o : Nat} {es : List (List D)} (h : RelEs K b o es) : ∀ n, RelEs K b o (es.take n) := by
  induction es generalizing o with
  | nil => intro n; simpa using h
  | cons e es ih =>
    intro n
    simp only [RelEs] at h
    cases n with
    | zero => simp [RelEs]
    | succ n => simp only [List.take_succ_cons, RelEs]; exact ⟨h.1, ih h.2 n⟩

theorem RelD.empty {a : Option Addr} {cap : Nat} (ha : a = none → cap = 0) (hs : ∀ ad, a = some ad → ad.spot = none) : RelD K (.sl false []) (.slice a 0 cap) := by
  simp only [RelD]
  exact ⟨a, 0, cap, rfl, rfl, Nat.zero_le _, (fun h => by cases h), Nat.zero_le _, ha, fun ad e => ⟨fun _ => hs ad e, ⟨0, by simp⟩, by simp [RelEs]⟩⟩

/-- a slice's part, as pure data -/
theorem sl_part {c c' : Bool} {es : List (List D)} {sz : Nat} {a : Option Addr} {n cap l h m : Nat} (hr : RelD K (.sl c es) (.slice a n cap)) (hu : ∀ x ∈ es, x.length = sz) (h1 : l ≤ h) (h2 : h ≤ n) (hm : h ≤ m) (hm2 : m ≤ cap)
    (hc : c' = true → m = h) : RelD K (.sl c' ((es.take h).drop l)) (.slice (if m = l then a else a.map (·.add (l * sz))) (h - l) (m - l)) := by
  simp only [RelD] at hr
  obtain ⟨a', n', cap', e, rfl, r2, r3, r4, r5, r6⟩ := hr
  cases e
  simp only [RelD]
  refine ⟨_, _, _, rfl, by simp; omega, by omega, fun hh => by have := hc hh; omega, by omega, ?_, ?_⟩
  · intro hn
    split at hn
    · omega
    · cases a with
      | none => have := r5 rfl; omega
      | some ad => simp at hn
  · intro ad hd
    split at hd
    · rename_i hml
      subst hd
      obtain ⟨s1, ⟨sz', s2⟩, s3⟩ := r6 ad rfl
      have : (es.take h).drop l = [] := by apply List.drop_eq_nil_of_le; simp; omega
      rw [this]
      exact ⟨fun hne => absurd (by omega) hne, ⟨0, by simp⟩, by simp [RelEs]⟩
    · cases a with
      | none => simp at hd
      | some ad' =>
        simp at hd; subst hd
        obtain ⟨s1, ⟨sz', s2⟩, s3⟩ := r6 ad' rfl
        obtain ⟨b, o, sp⟩ := ad'
        simp only at s1 s3
        have s1 := s1 (by omega)
        subst s1
        refine ⟨fun _ => by simp [Addr.add_mid], ⟨sz, fun e he => hu e (List.mem_of_mem_take (List.mem_of_mem_drop he))⟩, ?_⟩
        simp only [Addr.add_mid]
        exact (s3.take h).drop (fun e he => hu e (List.mem_of_mem_take he)) l (by simp; omega)

theorem oSlice_sound (hI : Inv G K w H) {t : TypeId} {ti : TInf} (ht : tinfo P t = some ti) {a x : AV} {v : Value} {lo hi mx : Option AV} {vlo vhi vmx : Option Value} (ha : RelA G (tipsOf H) K a v)
    (hlo : RelO G (tipsOf H) K lo vlo) (hhi : RelO G (tipsOf H) K hi vhi) (hmx : RelO G (tipsOf H) K mx vmx) (h : oSlice (some ti) (tinfo P ti.elem) a lo hi mx H = some (x, H')) :
    H' = H ∧ ∃ y, (Instr.sliceAt t v vlo vhi vmx).run P w = .ok y w ∧ RelA G (tipsOf H) K x y := by
  obtain ⟨ii, d, z, h1, h2, h3, h4, rfl⟩ := tinfo_spec ht
  unfold oSlice at h
  cases a with
  | d dx =>
    cases dx with
    | str s =>
      simp only at h
      split at h
      · rename_i hc
        obtain ⟨c1, c2⟩ := hc
        simp only [Option.bind_eq_some_iff, Option.some.injEq, Prod.mk.injEq] at h
        obtain ⟨⟨l, hh, m⟩, hb, rfl, rfl⟩ := h
        cases d <;> simp [mkTI] at c1
        simp only [RelA, RelD] at ha
        obtain ⟨rfl, hl⟩ := ha
        obtain ⟨b1, b2, b3, b4⟩ := bounds_run (P := P) (w := w) hb hlo hhi hmx (Nat.le_refl _) false
        cases mx with
        | some _ => cases c2
        | none =>
          simp only [RelO] at hmx; subst hmx
          refine ⟨rfl, .string ⟨((s.drop l).take (hh - l)).toArray⟩, ?_, by simp only [RelA, RelD]; refine ⟨?_, by simp; omega⟩; trivial⟩
          have hs : (ByteArray.mk s.toArray).size = s.length := by simp [ByteArray.size]
          simp only [Instr.sliceAt, Instr.slice, Sem.run_bind, run_under h2, Result.andThen_ok, hs, b1]
          simp only [Option.isSome_none, Bool.false_eq_true, if_false, Sem.run_bind, b1, Result.andThen_ok]
          rw [← ByteArray.extract_mk]; rfl
      · cases h
    | sl c es =>
      simp only at h
      cases hte : tinfo P (mkTI P t ii d z).elem with
      | none => simp [hte] at h
      | some te =>
        rw [hte] at h
        obtain ⟨ie, de, ze, e1, e2, e3, e4, rfl⟩ := tinfo_spec hte
        simp only at h
        split at h
        · rename_i hc
          obtain ⟨c1, c2⟩ := hc
          simp only [Option.bind_eq_some_iff, Option.some.injEq, Prod.mk.injEq] at h
          obtain ⟨⟨l, hh, m⟩, hb, rfl, rfl⟩ := h
          cases d <;> simp [mkTI] at c1
          simp only [mkTI] at c2 e1
          simp only [RelA] at ha ⊢
          have ha' := ha
          simp only [RelD] at ha'
          obtain ⟨a, n, cap, rfl, rfl, r2, r3, r4, r5, r6⟩ := ha'
          obtain ⟨b1, b2, b3, b4⟩ := bounds_run (P := P) (w := w) hb hlo hhi hmx r2 true
          refine ⟨trivial, _, run_slice_sl h2 e1 b1, ?_⟩
          refine sl_part ha c2 b2 b3 ?_ ?_ ?_
          · cases m with
            | none => simp; omega
            | some m => exact (b4 m rfl).1
          · cases m with
            | none => simp
            | some m => have := (b4 m rfl).2; simp; omega
          · cases m with
            | none =>
              simp only [Bool.and_eq_true, decide_eq_true_eq, Option.getD_none]
              intro hx; rw [r3 hx.1, hx.2]
            | some m => simp
        · cases h
    | _ => simp at h
  | vec id pos es =>
    simp only at h
    cases hte : tinfo P (mkTI P t ii d z).elem with
    | none => simp [hte] at h
    | some te =>
      rw [hte] at h
      obtain ⟨ie, de, ze, e1, e2, e3, e4, rfl⟩ := tinfo_spec hte
      simp only at h
      split at h
      · rename_i hc
        obtain ⟨c1, c2⟩ := hc
        simp only [Option.bind_eq_some_iff, Option.some.injEq, Prod.mk.injEq] at h
        obtain ⟨⟨l, hh, m⟩, hb, rfl, rfl⟩ := h
        cases d <;> simp [mkTI] at c1
        simp only [mkTI] at c2 e1
        have ha0 := ha
        simp only [RelA] at ha
        obtain ⟨har, hag⟩ := ha
        have ha' := har
        simp only [RelD] at ha'
        obtain ⟨a, n, cap, rfl, rfl, r2, r3, r4, r5, r6⟩ := ha'
        obtain ⟨b1, b2, b3, b4⟩ := bounds_run (P := P) (w := w) hb hlo hhi hmx r2 true
        refine ⟨rfl, _, run_slice_sl h2 e1 b1, ?_⟩
        have hpart : ∀ c' : Bool, (c' = true → m.getD cap = hh) → RelD K (.sl c' ((es.take hh).drop l)) (.slice (if m.getD cap = l then a else a.map (·.add (l * ie.size))) (hh - l) (m.getD cap - l)) := fun c' hc' => by
          refine sl_part har c2 b2 b3 ?_ ?_ hc'
          · cases m with
            | none => simp; omega
            | some m => exact (b4 m rfl).1
          · cases m with
            | none => simp
            | some m => have := (b4 m rfl).2; simp; omega
        have hfull : hi = none → m = none ∧ hh = es.length := by
          intro he; subst he
          unfold oBounds at hb
          cases mx with
          | none =>
            simp only [sb, Option.bind_some, Option.bind_eq_some_iff] at hb
            obtain ⟨l', _, hb⟩ := hb
            split at hb
            · simp at hb; exact ⟨hb.2.2.symm, hb.2.1.symm⟩
            · cases hb
          | some _ => simp at hb
        split
        · rename_i n0 sz hH
          obtain ⟨rfl, rfl⟩ := hfull rfl
          have hd := hpart false (fun h => by cases h)
          rw [List.take_length] at hd
          split
          · rename_i hsz
            simp only [mkTI] at hsz
            subst hsz
            simp only [RelA]
            refine ⟨hd, ?_⟩
            obtain ⟨g, hg, hg'⟩ := hag
            refine ⟨g, hg, ?_⟩
            rcases hg' with hg' | ⟨n1, sz1, w1, k1, k2, k3, k4, k5⟩
            · exact .inl hg'
            · have hsz1 : sz1 = ie.size ∧ n1 = n0 := by
                simp [tipsOf, hH] at k1
                exact ⟨k1.2.symm, k1.1.symm⟩
              obtain ⟨rfl, rfl⟩ := hsz1
              refine .inr ⟨_, _, w1, k1, k2, k3, fun e he => k4 e (List.mem_of_mem_drop he), ?_⟩
              intro hp
              obtain ⟨a1, cap1, q1, q2⟩ := k5 hp
              cases q1
              refine ⟨if cap = l then a else a.map (·.add (l * ie.size)), cap - l, by simp, ?_⟩
              rcases q2 with q2 | ⟨bb, ee, sp, oo, q3, q4, q5, q6⟩
              · left; simp; omega
              · subst q4
                by_cases hcl : cap = l
                · left; simp; omega
                · right
                  refine ⟨bb, ee, sp, oo + l * ie.size, q3, by simp [hcl, Addr.add_mid], ?_, by simp; omega⟩
                  rw [List.length_drop, Nat.sub_mul]
                  have : l * ie.size ≤ es.length * ie.size := Nat.mul_le_mul_right _ (by omega)
                  omega
          · simp only [RelA]; exact hd
        · simp only [RelA]
          refine hpart _ ?_
          cases m with
          | none => intro h; cases h
          | some m => simp
      · cases h
  | arr id off len sz =>
    simp only at h
    cases hte : tinfo P (mkTI P t ii d z).elem with
    | none => simp [hte] at h
    | some te =>
      rw [hte] at h
      obtain ⟨ie, de, ze, e1, e2, e3, e4, rfl⟩ := tinfo_spec hte
      cases hcs : hcells H id with
      | none => simp [hcs] at h
      | some cs =>
        simp only [hcs] at h
        split at h
        · rename_i hc
          obtain ⟨c1, c2, c3⟩ := hc
          simp only [Option.bind_eq_some_iff, Option.some.injEq, Prod.mk.injEq] at h
          obtain ⟨⟨l, hh, m⟩, hb, rfl, rfl⟩ := h
          cases d <;> simp [mkTI] at c1
          simp only [mkTI] at c2 e1
          obtain ⟨b, n, vs, tt, fr, g1, _⟩ := hI.cells (hcells_spec hcs)
          obtain ⟨cap, rfl, q1, q2, q3⟩ := ha.arr_cells g1
          obtain ⟨b1, b2, b3, b4⟩ := bounds_run (P := P) (w := w) hb hlo hhi hmx q1 true
          have hm : m = none := by
            cases mx with
            | some _ => cases c3
            | none =>
              unfold oBounds at hb
              simp only [Option.bind_eq_some_iff] at hb
              obtain ⟨_, _, _, _, hb⟩ := hb
              split at hb
              · simp at hb; exact hb.2.2.symm
              · cases hb
          subst hm
          simp only [Option.getD_none] at b1
          refine ⟨rfl, _, run_slice_sl h2 e1 b1, ?_⟩
          subst c2
          split
          · rename_i hl
            have hl : l = 0 ∨ l < hh := hl
            have : (if cap = l then some (⟨b, off, none⟩ : Addr) else (some (⟨b, off, none⟩ : Addr)).map (·.add (l * ie.size))) = some ⟨b, off + l * ie.size, none⟩ := by
              by_cases hcl : cap = l
              · have : l = 0 := by
                  rcases hl with h | h
                  · exact h
                  · omega
                subst this; simp [hcl]
              · simp [hcl, Addr.add_mid]
            simp only [RelA]
            rw [this]
            refine ⟨_, g1, rfl, .inr ⟨b, n, cap - l, rfl, rfl, by simp; omega, by simp; omega, ?_⟩⟩
            rw [Nat.sub_mul]
            have : l * ie.size ≤ cap * ie.size := Nat.mul_le_mul_right _ (by omega)
            simp; omega
          · rename_i hl
            have hl : ¬ (l = 0 ∨ l < hh) := hl
            have : hh - l = 0 := by omega
            simp only [RelA]
            simp only [this]
            refine RelD.empty (fun he => ?_) (fun ad he => ?_)
            · split at he <;> simp at he
            · split at he
              · cases he; rfl
              · simp at he; subst he; simp [Addr.add_mid]
        · cases h
  | _ => simp at h

end Go.Proofs.YthhmioodienlmaaGreatDoor

/- The abstract machine, part 14: fields of values, conversions, unary operators, rows made, nil checks. -/
namespace Go.Proofs.YthhmioodienlmaaGreatDoor
open Go

variable {P : Program} {G : List GI} {T : Tips} {K : Kmem} {w : World} {H H' : List HO}

theorem oField_sound {s : TypeId} {a x : AV} {v : Value} {f : Nat} (ha : RelA G T K a v) (h : oField (tinfo P s) a f H = some (x, H')) :
    H' = H ∧ ∃ y, (Instr.field s v f).run P w = .ok y w ∧ RelA G T K x y := by
  unfold oField at h
  cases ht : tinfo P s with
  | none => simp [ht] at h
  | some ti =>
    rw [ht] at h
    obtain ⟨i, d, z, h1, h2, h3, h4, rfl⟩ := tinfo_spec ht
    cases a with
    | agg cs =>
      simp only at h
      split at h
      · rename_i o n g hf
        split at h
        · rename_i hc
          simp only [Option.map_eq_some_iff, Prod.mk.injEq] at h
          obtain ⟨x', hx, rfl, rfl⟩ := h
          refine ⟨rfl, ?_⟩
          simp only [RelA] at ha
          obtain ⟨vs, rfl, hr⟩ := ha
          simp only [mkTI] at hf
          cases d <;> simp at hf
          rename_i fs
          obtain ⟨fl, hfl, rfl, rfl, rfl⟩ := hf
          obtain ⟨fi, e1, e2⟩ := info_of_cells hc.2
          have hr' : RelAs G T K ((cs.drop fl.offset).take (P.cellsOf fl.type)) ((vs.toList.drop fl.offset).take (P.cellsOf fl.type)) := (hr.drop _).take _
          obtain ⟨y, hy, k1, k2⟩ := ofCells_rel hr' hx
          have hun : ∃ du, P.underlying fl.type = some du := by
            have := h4.2.1
            simp only [okFs] at this
            have hm := (Array.all_eq_true_iff_forall_mem.1 this) fl (Array.mem_of_getElem? hfl)
            simp only [Bool.and_eq_true] at hm
            exact Option.isSome_iff_exists.1 hm.2
          obtain ⟨du, hdu⟩ := hun
          refine ⟨y, ?_, hy⟩
          unfold Instr.field
          simp only [Sem.run_bind, run_under h2, Result.andThen_ok, hfl, asAgg, Sem.run_pure]
          refine run_part e1 hdu ?_ ?_
          · intro hg
            rw [k1 hg, ← e2]
            congr 1
            apply Array.ext'
            simp [Nat.add_sub_cancel_left]
          · intro hg
            have hl := k2 hg
            have : ((vs.toList.drop fl.offset).take (P.cellsOf fl.type))[0]? = some y := by rw [hl]; rfl
            rw [List.getElem?_take] at this
            split at this
            · simpa using this
            · cases this
        · cases h
      · cases h
    | _ => simp at h

/-- an element of a string, or of an array that is a value -/
def oIndexX (P : Program) (t : TypeId) (a i : AV) (H : List HO) : Res :=
  match a with
  | .agg cs => match tinfo P t, i with
    | some ti, .d (.int _ n) => match ti.alen, tinfo P ti.elem with
      | some len, some te => if inRange n len = true ∧ n.toNat * te.size + te.size ≤ cs.length then (AV.ofCells te.agg ((cs.drop (n.toNat * te.size)).take te.size)).map (·, H) else none
      | _, _ => none
    | _, _ => none
  | a => oIndex (tinfo P t) a i H

theorem oIndexX_sound {t : TypeId} {a i x : AV} {v u : Value} (ha : RelA G T K a v) (hi : RelA G T K i u) (h : oIndexX P t a i H = some (x, H')) :
    H' = H ∧ ∃ y, (Instr.index t v u).run P w = .ok y w ∧ RelA G T K x y := by
  unfold oIndexX at h
  split at h
  · rename_i cs
    split at h
    · rename_i ti k n ht
      split at h
      · rename_i len te hal hte
        split at h
        · rename_i hc
          simp only [Option.map_eq_some_iff, Prod.mk.injEq] at h
          obtain ⟨x', hx, rfl, rfl⟩ := h
          refine ⟨rfl, ?_⟩
          obtain ⟨ii, d, z, h1, h2, h3, h4, rfl⟩ := tinfo_spec ht
          obtain ⟨ie, de, ze, e1, e2, e3, e4, rfl⟩ := tinfo_spec hte
          simp only [RelA, RelD] at ha hi
          obtain ⟨vs, rfl, hr⟩ := ha
          subst hi
          cases d <;> simp [mkTI] at hal
          rename_i len' el
          subst hal
          simp only [mkTI] at hc hx e1 e2
          have hn := inRange_spec hc.1
          obtain ⟨y, hy, k1, k2⟩ := ofCells_rel ((hr.drop (n.toNat * ie.size)).take ie.size) hx
          refine ⟨y, ?_, hy⟩
          unfold Instr.index
          simp only [asIntOf, Sem.run_bind, run_under h2, Result.andThen_ok, Sem.run_pure]
          rw [if_pos hn]
          simp only [Sem.run_bind, run_sizeOf e1, Result.andThen_ok]
          refine run_part e1 e2 ?_ ?_
          · intro hg
            rw [k1 hg]
            congr 1
            apply Array.ext'
            simp [Nat.add_sub_cancel_left]
          · intro hg
            have hl := k2 hg
            have : ((vs.toList.drop (n.toNat * ie.size)).take ie.size)[0]? = some y := by rw [hl]; rfl
            rw [List.getElem?_take] at this
            split at this
            · simpa using this
            · cases this
        · cases h
      · cases h
    · cases h
  · exact oIndex_sound ha hi h

def oUn (op : UnOp) (a : AV) : Option AV :=
  match op, a with
  | .not, .d (.bool b) => some (.d (.bool (!b)))
  | .neg, .d (.int k n) => some (.d (.int k (k.wrap (0 - n))))
  | .xor, .d (.int k n) => some (.d (bitsOp k (· ^^^ ·) (if k.signed then -1 else k.max) n))
  | _, _ => none

theorem oUn_sound {op : UnOp} {a x : AV} {v : Value} (ha : RelA G T K a v) (h : oUn op a = some x) : ∃ y, (Op.unary op v).run P w = .ok y w ∧ RelA G T K x y := by
  unfold oUn at h
  split at h
  · simp only [RelA, RelD] at ha; subst ha
    cases h; exact ⟨_, rfl, by simp only [RelA, RelD]⟩
  · simp only [RelA, RelD] at ha; subst ha
    cases h; exact ⟨_, rfl, by simp only [RelA, RelD]⟩
  · simp only [RelA, RelD] at ha; subst ha
    cases h; exact ⟨_, rfl, by simp only [RelA, RelD, bitsOp]⟩
  · cases h

def bytes? : List (List D) → Option Str
  | [] => some []
  | [.int .u8 n] :: r => (bytes? r).map (UInt8.ofNat n.toNat :: ·)
  | _ => none

theorem bytes_spec {es : List (List D)} {s : Str} (h : bytes? es = some s) : ∃ ns : List Int, es = ns.map (fun n => [.int .u8 n]) ∧ s = ns.map fun n => UInt8.ofNat n.toNat := by
  induction es generalizing s with
  | nil => simp [bytes?] at h; subst h; exact ⟨[], rfl, rfl⟩
  | cons e es ih =>
    unfold bytes? at h
    split at h
    · rename_i e; cases e
    · rename_i n r e
      cases e
      simp only [Option.map_eq_some_iff] at h
      obtain ⟨s', h1, rfl⟩ := h
      obtain ⟨ns, rfl, rfl⟩ := ih h1
      exact ⟨n :: ns, rfl, rfl⟩
    · cases h

/-- what a conversion asks of its types -/
inductive CvK where
  | int (k : IntKind) | str | bytes | no
  deriving DecidableEq

def cvK (P : Program) (src dst : TypeId) : CvK :=
  match P.underlying src, P.underlying dst with
  | some _, some (.int k) => .int k
  | some (.slice e), some .string => match P.underlying e with | some (.int .u8) => .bytes | _ => .no
  | some _, some .string => .str
  | _, _ => .no

def dConv (ck : CvK) (a : D) : Option D :=
  match ck, a with
  | .int k, .int _ n => some (.int k (k.wrap n))
  | .str, .str s => some (.str s)
  | .bytes, .sl _ es => (bytes? es).map .str
  | _, _ => none

def oConv (ck : CvK) (a : AV) : Option AV := a.toD.bind fun x => (dConv ck x).map .d

theorem toD_rel {a : AV} {x : D} {v : Value} (h : a.toD = some x) (ha : RelA G T K a v) : RelD K x v := by
  cases a <;> simp only [AV.toD, Option.some.injEq] at h
  · subst h; simpa only [RelA] using ha
  all_goals first
    | (cases h; done)
    | (subst h; simp only [RelA] at ha; exact ha.1)

theorem foldl_push (ns : List Int) (s : ByteArray) : ns.foldl (fun r n => r.push (UInt8.ofNat n.toNat)) s = ⟨s.data ++ (ns.map fun n => UInt8.ofNat n.toNat).toArray⟩ := by
  induction ns generalizing s with
  | nil => simp
  | cons n ns ih => rw [List.foldl_cons, ih]; simp [ByteArray.push]

theorem flatten_ones (ns : List Int) : (ns.map fun n => [D.int .u8 n]).flatten = ns.map (D.int .u8) := by
  induction ns with
  | nil => rfl
  | cons n ns ih => simp [ih]

theorem oConv_sound (hI : Inv G K w H) {src dst : TypeId} {a x : AV} {v : Value} (ha : RelA G (tipsOf H) K a v) (h : oConv (cvK P src dst) a = some x) :
    ∃ y, (convert src dst v).run P w = .ok y w ∧ RelA G (tipsOf H) K x y := by
  unfold oConv at h
  simp only [Option.bind_eq_some_iff, Option.map_eq_some_iff] at h
  obtain ⟨d, hd, r, h, rfl⟩ := h
  have hr := toD_rel hd ha
  clear hd ha
  simp only [RelA]
  unfold dConv at h
  split at h
  · rename_i k k0 n hk
    simp only [Option.some.injEq] at h; subst h
    simp only [RelD] at hr; subst hr
    refine ⟨.int k (k.wrap n), ?_, by simp only [RelD]⟩
    unfold cvK at hk
    split at hk
    · rename_i s k' h1 h2
      cases hk
      simp [convert, run_under h1, run_under h2, Conv.intToInt]
    · split at hk <;> cases hk
    · cases hk
    · cases hk
  · rename_i s hk
    simp only [Option.some.injEq] at h; subst h
    simp only [RelD] at hr ⊢
    obtain ⟨rfl, hl⟩ := hr
    refine ⟨_, ?_, rfl, hl⟩
    unfold cvK at hk
    split at hk
    · cases hk
    · split at hk <;> cases hk
    · rename_i s' _ h2 h1
      simp [convert, run_under h1, run_under h2]
    · cases hk
  · rename_i c es hk
    simp only [Option.map_eq_some_iff] at h
    obtain ⟨s, hs, rfl⟩ := h
    obtain ⟨ns, rfl, rfl⟩ := bytes_spec hs
    unfold cvK at hk
    split at hk
    · cases hk
    · rename_i e h1 h2
      split at hk
      · rename_i h3
        simp only [RelD] at hr ⊢
        obtain ⟨a, n, cap, rfl, r1, r2, r3, r4, r5, r6⟩ := hr
        refine ⟨_, ?_, rfl, by simp at r1 ⊢; omega⟩
        rw [run_convert_bytes_string w src dst e a n cap h1 h3 h2]
        cases a with
        | none =>
          have : ns = [] := by
            have := r5 rfl
            cases ns with
            | nil => rfl
            | cons _ _ => simp at r1; omega
          subst this
          simp [Conv.bytesToString]; rfl
        | some ad =>
          obtain ⟨b, o, sp⟩ := ad
          obtain ⟨s1, s2, s3⟩ := r6 _ rfl
          by_cases hc0 : cap = 0
          · have hns : ns = [] := List.eq_nil_of_length_eq_zero (by simp at r1; omega)
            subst hns
            have hn0 : n = 0 := by simpa using r1
            subst hn0
            simp [Conv.bytesToString, loadCells, loadCellsFrom]; rfl
          simp only at s1 s3
          have s1 := s1 hc0
          subst s1
          obtain ⟨vs, l, k, r⟩ := s3.vals (G := G) (T := tipsOf H) (sz := 1) (by simp)
          have hvs : vs = ns.map (Value.int .u8) := by
            apply List.ext_getElem?
            intro i
            have hf : (ns.map fun n => [D.int .u8 n]).flatten = ns.map (D.int .u8) := flatten_ones ns
            rw [hf] at r
            cases hn : ns[i]? with
            | none =>
              have : ns.length ≤ i := by simpa using hn
              rw [List.getElem?_eq_none (by simp at l; omega), List.getElem?_eq_none (by simpa using this)]
            | some n =>
              obtain ⟨u, hu, ru⟩ := r.d_get (i := i) (c := .int .u8 n) (by simp [hn])
              simp only [RelD] at ru; subst ru
              rw [hu]; simp [hn]
          have hlen : vs.length = n := by simp at l; rw [l, r1]; simp
          rw [run_bytesToString w ⟨b, o, none⟩ n cap ns (by
            rw [← hvs, ← hlen]
            exact run_loadCells_list w ⟨b, o, none⟩ vs fun j u hu => by rw [Addr.add_mid]; exact hI.agree _ _ _ (k j u hu))]
          rw [foldl_push]
          congr 2
          simp [ByteArray.empty, ByteArray.emptyWithCapacity]
          rfl
      · cases hk
    · cases hk
    · cases hk
  · cases h

def oNilCheck (a : AV) (H : List HO) : Option AV :=
  match a with
  | .ptr id _ => match hcells H id with | some _ => some a | none => none
  | .d (.ptr _) => some a
  | .fn (.func _) _ _ => some a
  | _ => none

def makeSliceOk (t : TInf) (e : TInf) (n : Nat) : Bool := t.isSl && decide (n * e.size ≤ 16777216) && decide (n ≤ lim) && decide (e.bytes ≤ 32768)

def oMakeSlice (ti te : Option TInf) (l c : AV) (H : List HO) : Res :=
  match ti, te, l, c with
  | some t, some e, .d (.int .i64 n), .d (.int .i64 n') =>
    if n = n' ∧ 0 ≤ n ∧ makeSliceOk t e n.toNat = true then
      if n = 0 then some (.d (.sl true []), H) else some (.arr H.length 0 n.toNat e.size, H ++ [.cells (zerosA e n.toNat)])
    else none
  | _, _, _, _ => none

theorem wrap_i64 {n : Int} (h1 : -9223372036854775808 ≤ n) (h2 : n ≤ 9223372036854775807) : IntKind.i64.wrap n = n := by
  have hb : IntKind.i64.bits = 64 := rfl
  have hs : IntKind.i64.signed = true := rfl
  unfold IntKind.wrap
  rw [hb, hs]
  simp only [Bool.true_and, decide_eq_true_eq]
  split <;> omega

theorem oMakeSlice_sound (hI : Inv G K w H) {t : TypeId} {ti : TInf} (ht : tinfo P t = some ti) {l c x : AV} {vl vc : Value} (hl : RelA G (tipsOf H) K l vl) (hc : RelA G (tipsOf H) K c vc)
    (h : oMakeSlice (some ti) (tinfo P ti.elem) l c H = some (x, H')) :
    ∃ y w' G', (Instr.makeSlice t vl vc).run P w = .ok y w' ∧ RelA G' (tipsOf H') K x y ∧ Inv G' K w' H' ∧ Post G.length G (tipsOf H) K w G' (tipsOf H') K w' := by
  obtain ⟨ii, d, z, h1, h2, h3, h4, rfl⟩ := tinfo_spec ht
  unfold oMakeSlice at h
  split at h
  · rename_i t' e n n' e0 hte
    cases e0
    obtain ⟨ie, de, ze, e1, e2, e3, e4, rfl⟩ := tinfo_spec hte
    split at h
    · rename_i hcc
      obtain ⟨rfl, hn0, hok⟩ := hcc
      simp only [makeSliceOk, Bool.and_eq_true, decide_eq_true_eq] at hok
      obtain ⟨⟨⟨c1, c2⟩, c3⟩, c4⟩ := hok
      cases d <;> simp [mkTI] at c1
      simp only [mkTI] at e1 c2 c4
      simp only [RelA, RelD] at hl hc
      subst hl; subst hc
      obtain ⟨n, rfl⟩ := Int.eq_ofNat_of_zero_le hn0
      simp only [Int.toNat_natCast] at c2 c3
      have hb : (ie.bytes : Int) * (n : Int) ≤ 140737488355328 := by
        have : ie.bytes * n ≤ 32768 * 4294967296 := Nat.mul_le_mul c4 (by simpa [lim] using c3)
        have h2 : ie.bytes * n ≤ 140737488355328 := this
        have h3 := Int.ofNat_le.2 h2
        rwa [Int.natCast_mul] at h3
      rename_i e
      have hrun := run_makeSlice w t e ie ze h2 e1 e3 .i64 .i64 (n : Int) n (by omega) (Int.le_refl _) (by simpa using c2) (by omega) (by simp only [lim] at c3; omega)
      simp only [Int.toNat_natCast] at hrun
      have hmade : madeCells ze.cells (n * ie.size) = (Array.range (n * ie.size)).map ((if n * ie.size = 0 then #[] else ze.cells)[· % (if n * ie.size = 0 then #[] else ze.cells).size]!) := by
        by_cases h0 : n * ie.size = 0
        · simp [madeCells, h0]
        · simp [madeCells, h0]
      rw [hmade] at hrun
      split at h
      · rename_i h0
        simp only [Option.some.injEq, Prod.mk.injEq] at h
        obtain ⟨rfl, rfl⟩ := h
        have h0 : n = 0 := by omega
        subst h0
        obtain ⟨j1, j2⟩ := hI.fixNew (w' := w.alloc (.cells ((Array.range (0 * ie.size)).map ((if 0 * ie.size = 0 then #[] else ze.cells)[· % (if 0 * ie.size = 0 then #[] else ze.cells).size]!)) e)) (t := e) rfl ⟨rfl, rfl, rfl⟩ 0
        have hK : ∀ vs, K.row w.heap.size 0 0 vs = K := fun vs => by
          funext b o
          unfold Kmem.row
          rw [if_neg (by omega)]
        rw [hK] at j1 j2
        refine ⟨_, _, _, hrun, ?_, j1, j2⟩
        simp only [RelA, RelD]
        exact ⟨_, _, _, rfl, rfl, Nat.le_refl _, fun _ => rfl, Nat.zero_le _, (fun h => by cases h), fun ad e => by cases e; exact ⟨fun _ => rfl, ⟨0, by simp⟩, by simp [RelEs]⟩⟩
      · rename_i h0
        simp only [Option.some.injEq, Prod.mk.injEq] at h
        obtain ⟨rfl, rfl⟩ := h
        obtain ⟨j1, j2, _⟩ := hI.newCells' (w' := w.alloc (.cells ((Array.range (n * ie.size)).map ((if n * ie.size = 0 then #[] else ze.cells)[· % (if n * ie.size = 0 then #[] else ze.cells).size]!)) e)) rfl ⟨rfl, rfl, rfl⟩
          (zeros_rel (P := P) (e := e) (d := de) e4.1 e4.2.2 n)
        refine ⟨_, _, _, hrun, ?_, j1, j2⟩
        unfold RelA
        refine ⟨_, by rw [← hI.len]; simp; rfl, rfl, .inr ⟨_, _, n, rfl, rfl, Nat.le_refl _, by simpa using c3, ?_⟩⟩
        simp [mkTI]
    · cases h
  · cases h

end Go.Proofs.YthhmioodienlmaaGreatDoor
