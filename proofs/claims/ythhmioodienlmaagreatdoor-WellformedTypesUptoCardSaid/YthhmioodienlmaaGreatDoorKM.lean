/- The examples that the statements of chapter 8 check first: they hold. -/
import Derived.Test.YthhmioodienlmaaGreatDoorKK
import Derived.Test.YthhmioodienlmaaGreatDoorKL
set_option linter.unusedSimpArgs false
set_option linter.unusedVariables false
namespace Go.Proofs.YthhmioodienlmaaGreatDoor
open Go

/-- contracts that the machine may use -/
def pr8 : Prims := fun f ps => match ps with
  | [.d (.str s)] => match Nat.ble s.length 1048576 with
    | true => match Nat.beq f 96 with
      | true => some (.d (.bool (isName s)))
      | false => match Nat.beq f 70 with
        | true => some (.d (.bool (isPath s)))
        | false => match Nat.beq f 95 with
          | true => some (.d (.bool (isType s)))
          | false => none
    | false => none
  | [.d (.str s), .d (.str t)] => match Nat.beq f 159 with
    | true => some (.d (.int .i64 (Lib.compareBytes s t)))
    | false => none
  | _ => none

theorem pr8_ok : PrOk Tryz.prog pr8 := by
  intro f ps v h
  unfold pr8 at h
  split at h
  · rename_i s
    split at h
    · rename_i hl
      have hl := Nat.le_of_ble_eq_true hl
      split at h
      · rename_i hf
        have hf := Nat.eq_of_beq_eq_true hf
        subst hf; cases h
        exact ⟨rfl, lex_IsName s hl⟩
      · split at h
        · rename_i hf
          have hf := Nat.eq_of_beq_eq_true hf
          subst hf; cases h
          exact ⟨rfl, lex_IsPath s hl⟩
        · split at h
          · rename_i hf
            have hf := Nat.eq_of_beq_eq_true hf
            subst hf; cases h
            exact ⟨rfl, lex_IsType s (by omega)⟩
          · cases h
    · cases h
  · rename_i s t
    split at h
    · rename_i hf
      have hf := Nat.eq_of_beq_eq_true hf
      subst hf; cases h
      exact ⟨rfl, str_Compare s t⟩
    · cases h
  · cases h

def clones8 : List Nat := [12, 78, 108, 113, 114,
  116, 117, 195, 220]
def cfg8 : Cfg := ⟨clones8, 130 :: clones8, false⟩

theorem fun_of_run {pr : Prims} (hpr : PrOk Tryz.prog pr) {f : FuncId} {args : List AV} {v : AV} (h : xcheck Tryz.prog cfg8 pr 3000 f args (AV.eqb v) = true) : Fun Tryz.prog f args v :=
  (xcheck_sound mixed hpr h).mono fun x _ h => (AV.eqb_eq _ _ h).symm

/-! the examples' data -/
def sA : Str := [97, 47, 118, 49]
def sN : Str := [78]
def tRef8 : Ty := .mk 10 sA sN [] []
def tRec8 : Ty := .mk 6 [] [] [] [.mk [110, 101, 120, 116] tRef8 false]
def ienv8 (u : Ty) : If := ⟨sA, [⟨sN, [], .mk 1 [] [] [] [], u⟩], [], [], []⟩
def denv8 (u : Ty) : AV := .d (.sl false [(ienv8 u).enc])

theorem run_EnvA : xcheck Tryz.prog cfg8 pr8 3000 16 [denv8 tRec8] (AV.eqb (.tup [.d (.str []), .d (.int .i64 0)])) = true := by kernel_rfl
theorem run_EnvB : xcheck Tryz.prog cfg8 pr8 3000 16 [denv8 tRef8] (AV.eqb (.tup [.d (.str sA), .d (.int .i64 14)])) = true := by kernel_rfl
theorem run_If : xcheck Tryz.prog cfg8 pr8 3000 15 [denv8 tRec8, .d (.str sA)] (AV.eqb (.tup [.d (.str []), .d (.int .i64 0)])) = true := by kernel_rfl
theorem run_Entry : xcheck Tryz.prog cfg8 pr8 3000 24 [denv8 tRec8, .d (.str sA), .d (.str sN)] (AV.eqb (.d (.int .i64 0))) = true := by kernel_rfl
theorem run_Groups : xcheck Tryz.prog cfg8 pr8 3000 19 [agg (ienv8 tRec8).enc] (AV.eqb (.d (.sl false [[.sl false [[.str sN]]]]))) = true := by kernel_rfl

/-- a table of contracts -/
def prTab : List (FuncId × List AV × AV) → Prims
  | [], _, _ => none
  | (g, qs, v) :: l, f, ps => match Nat.beq f g with
    | true => match AV.eqbL qs ps with
      | true => some v
      | false => prTab l f ps
    | false => prTab l f ps
theorem prTab_ok : ∀ l : List (FuncId × List AV × AV), (∀ e ∈ l, e.2.2.free = true ∧ Fun Tryz.prog e.1 e.2.1 e.2.2) → PrOk Tryz.prog (prTab l)
  | [], _, _, _, _, h => by cases h
  | (g, qs, v) :: l, hl, f, ps, u, h => by
    unfold prTab at h
    split at h
    · rename_i hf
      split at h
      · rename_i hq
        cases h
        have h1 := Nat.eq_of_beq_eq_true hf
        have h2 := AV.eqbL_eq _ _ hq
        subst h1; subst h2
        exact hl _ (List.mem_cons_self ..)
      · exact prTab_ok l (fun e he => hl e (List.mem_cons_of_mem _ he)) f ps u h
    · exact prTab_ok l (fun e he => hl e (List.mem_cons_of_mem _ he)) f ps u h
/-- two tables -/
def prOr (p q : Prims) : Prims := fun f ps => match p f ps with | some v => some v | none => q f ps
theorem prOr_ok {P : Program} {p q : Prims} (hp : PrOk P p) (hq : PrOk P q) : PrOk P (prOr p q) := by
  intro f ps v h
  unfold prOr at h
  split at h
  · rename_i u hu
    cases h
    exact hp _ _ _ hu
  · exact hq _ _ _ h

def tab8 : List (FuncId × List AV × AV) :=
  [(16, [denv8 tRec8], .tup [.d (.str []), .d (.int .i64 0)]),
   (16, [denv8 tRef8], .tup [.d (.str sA), .d (.int .i64 14)]),
   (15, [denv8 tRec8, .d (.str sA)], .tup [.d (.str []), .d (.int .i64 0)]),
   (24, [denv8 tRec8, .d (.str sA), .d (.str sN)], .d (.int .i64 0)),
   (19, [agg (ienv8 tRec8).enc], .d (.sl false [[.sl false [[.str sN]]]]))]
theorem tab8_ok : PrOk Tryz.prog (prTab tab8) := by
  refine prTab_ok _ fun e he => ?_
  simp only [tab8, List.mem_cons, List.not_mem_nil, or_false] at he
  rcases he with rfl | rfl | rfl | rfl | rfl
  · exact ⟨rfl, fun_of_run pr8_ok run_EnvA⟩
  · exact ⟨rfl, fun_of_run pr8_ok run_EnvB⟩
  · exact ⟨rfl, fun_of_run pr8_ok run_If⟩
  · exact ⟨rfl, fun_of_run pr8_ok run_Entry⟩
  · exact ⟨rfl, fun_of_run pr8_ok run_Groups⟩

theorem awake8_run : xcheck Tryz.prog cfg8 (prOr (prTab tab8) pr8) 3000 7 [] (AV.eqb (.d (.bool true))) = true := by kernel_rfl
theorem awake8 : Fun Tryz.prog 7 [] (.d (.bool true)) := fun_of_run (prOr_ok tab8_ok pr8_ok) awake8_run

end Go.Proofs.YthhmioodienlmaaGreatDoor
