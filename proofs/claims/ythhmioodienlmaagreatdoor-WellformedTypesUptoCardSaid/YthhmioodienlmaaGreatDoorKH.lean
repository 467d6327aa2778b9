/- Contracts of the reference's functions on types (chapter 4): the form of a node, of a type. -/
import Derived.Test.YthhmioodienlmaaGreatDoorKG
set_option linter.unusedSimpArgs false
set_option linter.unusedVariables false
namespace Go.Proofs.YthhmioodienlmaaGreatDoor
open Go
set_option maxRecDepth 20000
set_option pp.deepTerms false
set_option pp.deepTerms.threshold 6

def nbs : List Str → Int
  | a :: b :: l => if nb a b = 0 then nbs (b :: l) else nb a b
  | _ => 0
def tnode : Ty → Int
  | .mk k mo n ar fs =>
    if k < 0 ∨ 10 < k then 1 else
    if k ≠ 10 ∧ ((ar.length : Int) ≠ (if k = 5 ∨ k = 8 then 1 else 0) ∨ mo ≠ []) ∨ ¬ (k = 6 ∨ k = 7 ∨ k = 8) ∧ 0 < (fs.length : Int) ∨ k ≠ 10 ∧ k ≠ 9 ∧ n ≠ [] then 1 else
    if fs.any (fun f => f.opt && decide (k ≠ 8)) then 1 else
    if 32 < (fs.length : Int) ∨ k = 10 ∧ 8 < (ar.length : Int) then 7 else
    if k = 9 ∧ variable' n = false ∨ k = 10 ∧ (module mo = false ∨ isType n = false) then 4 else
    if fs.any (fun f => !isName f.name) then 4 else
    nbs (fs.map Fd.name)

def tbad2 (k : Int) (mo n : Str) (ar : List Ty) (fs : List Fd) : Prop := k ≠ 10 ∧ ((ar.length : Int) ≠ (if k = 5 ∨ k = 8 then 1 else 0) ∨ mo ≠ []) ∨ ¬ (k = 6 ∨ k = 7 ∨ k = 8) ∧ 0 < (fs.length : Int) ∨ k ≠ 10 ∧ k ≠ 9 ∧ n ≠ []
theorem tnode_bad {k : Int} {mo n : Str} {ar : List Ty} {fs : List Fd} (h : tbad2 k mo n ar fs) : tnode (.mk k mo n ar fs) = 1 := by
  simp only [tnode]
  by_cases h1 : k < 0 ∨ 10 < k
  · rw [if_pos h1]
  · rw [if_neg h1]; exact if_pos h

def optBad (k : Int) (l : List Fd) : Bool := l.any (fun f => f.opt && decide (k ≠ 8))
def nameBad (l : List Fd) : Bool := l.any (fun f => !isName f.name)
theorem optBad_cons (k : Int) (f : Fd) (l : List Fd) : optBad k (f :: l) = (f.opt && decide (k ≠ 8) || optBad k l) := by rfl
theorem nameBad_cons (f : Fd) (l : List Fd) : nameBad (f :: l) = (!isName f.name || nameBad l) := by rfl
def tnode3 (k : Int) (mo n : Str) (ar : List Ty) (fs : List Fd) : Int :=
    if fs.any (fun f => f.opt && decide (k ≠ 8)) then 1 else
    if 32 < (fs.length : Int) ∨ k = 10 ∧ 8 < (ar.length : Int) then 7 else
    if k = 9 ∧ variable' n = false ∨ k = 10 ∧ (module mo = false ∨ isType n = false) then 4 else
    if fs.any (fun f => !isName f.name) then 4 else
    nbs (fs.map Fd.name)
theorem tnode_ok {k : Int} {mo n : Str} {ar : List Ty} {fs : List Fd} (h1 : ¬ (k < 0 ∨ 10 < k)) (h : ¬ tbad2 k mo n ar fs) : tnode (.mk k mo n ar fs) = tnode3 k mo n ar fs := by
  simp only [tnode]
  rw [if_neg h1]
  exact if_neg h
theorem tb_a {k c : Int} {mo n : Str} {ar : List Ty} {fs : List Fd} (h10 : k ≠ 10) (hc : (if k = 5 ∨ k = 8 then 1 else 0) = c) (ha : ¬ (ar.length : Int) = c) : tbad2 k mo n ar fs := .inl ⟨h10, .inl (by rw [hc]; exact ha)⟩
theorem tb_m {k : Int} {mo n : Str} {ar : List Ty} {fs : List Fd} (h10 : k ≠ 10) (hm : ¬ mo = []) : tbad2 k mo n ar fs := .inl ⟨h10, .inr hm⟩
theorem tb_f {k : Int} {mo n : Str} {ar : List Ty} {fs : List Fd} (h : ¬ (k = 6 ∨ k = 7 ∨ k = 8)) (hf : 0 < (fs.length : Int)) : tbad2 k mo n ar fs := .inr (.inl ⟨h, hf⟩)
theorem tb_n {k : Int} {mo n : Str} {ar : List Ty} {fs : List Fd} (h10 : k ≠ 10) (h9 : k ≠ 9) (hn : ¬ n = []) : tbad2 k mo n ar fs := .inr (.inr ⟨h10, h9, hn⟩)
theorem tb_no {k : Int} {mo n : Str} {ar : List Ty} {fs : List Fd} (h1 : k = 10 ∨ (ar.length : Int) = (if k = 5 ∨ k = 8 then 1 else 0) ∧ mo = []) (h2 : (k = 6 ∨ k = 7 ∨ k = 8) ∨ ¬ 0 < (fs.length : Int)) (h3 : k = 10 ∨ k = 9 ∨ n = []) : ¬ tbad2 k mo n ar fs := by
  rintro (⟨a, b⟩ | ⟨a, b⟩ | ⟨a, b, c⟩)
  · rcases h1 with h1 | ⟨h1, h1'⟩
    · exact a h1
    · rcases b with b | b
      · exact b h1
      · exact b h1'
  · rcases h2 with h2 | h2
    · exact a h2
    · exact h2 b
  · rcases h3 with h3 | h3 | h3
    · exact a h3
    · exact b h3
    · exact c h3

set_option maxHeartbeats 2000000 in
theorem ref_typeNode (t : Ty) (hg : t.good) : Fun Tryz.prog 109 [agg t.enc] (.d (.int .i64 (tnode t))) := by
  have hs := hg.s
  have hl := hg.len
  obtain ⟨k, mo, n, ar, fs⟩ := t
  obtain ⟨hs1, hs2, hs3⟩ := hs
  simp only [Ty.module, Ty.name, Ty.fields, Ty.args] at hs1 hs2 hs3 hl
  clear hg
  refine ACalls.of_awp false Tryz.func109 (by decide) rfl ?_
  simp only [show Tryz.f109.ntmps = 176 from rfl, List.length_cons, List.length_nil, Nat.reduceAdd, Nat.reduceSub, List.replicate, List.cons_append, List.nil_append, agg, List.map_cons, List.map_nil]
  simp only [Ty.enc_eq, Ty.kind, Ty.module, Ty.name, Ty.args, Ty.fields, List.map_cons, List.map_nil]
  refine (fun (key : (fun (c : Code) (Q : AQ) => ¬ (k < 0 ∨ 10 < k) → ¬ tbad2 k mo n ar fs → ∀ ts H, lesA ts [.any, .ptr 0 0, .any, .any, .any, .d (.int .i64 0), .any, .any, .any, .any, .any, .any, .any, .any, .any, .any, .any, .any, .any, .any, .any, .any, .any, .any, .any, .any, .any, .any, .any, .any, .any, .any, .any, .any, .any, .any, .any, .any, .any, .any, .any, .any, .any, .any, .any, .any, .any, .any, .any, .any, .any, .any, .any, .any, .any, .any, .any, .any, .any, .any, .any, .any, .any, .any, .any, .any, .any, .any, .any, .any, .any, .any, .any, .any, .any, .any, .any, .any, .any, .any, .any, .any, .any, .any, .any, .any, .any, .any, .any, .any, .any, .any, .any, .any, .any, .any, .any, .any, .any, .any, .any, .any, .any, .any, .any, .any, .any, .any, .any, .any, .any, .any, .any, .any, .any, .any, .any, .any, .any, .any, .any, .any, .any, .any, .any, .any, .any, .any, .any, .any, .any, .any, .any, .any, .any, .any, .any, .any, .any, .any, .any, .any, .any, .any, .any, .any, .any, .any, .any, .any, .any, .any, .any, .any, .any, .any, .any, .any, .any, .any, .any, .any, .any, .any, .any, .any, .any, .any, .any, .any, .any, .any, .any, .any, .any, .any] → H = [HO.cells [.d (.int .i64 k), .d (.str mo), .d (.str n), .d (.sl false (ar.map Ty.enc)), .d (.sl false (fs.map Fd.enc))]] → awp Tryz.prog false 0 c Q ts H) ?c ?Q) => ?main) ?h
  case main =>
    by_cases h0 : k < 0
    · simp only [go_sem, h0]; exact ret_fun rfl (by simp [go_sem, tnode, h0]) rfl
    · by_cases h1 : 10 < k
      · simp only [go_sem, h0, h1]; exact ret_fun rfl (by simp [go_sem, tnode, h1]) rfl
      · have hk : (¬ k = 5 ∧ ¬ k = 6 ∧ ¬ k = 7 ∧ ¬ k = 8 ∧ ¬ k = 9 ∧ ¬ k = 10) ∨ k = 5 ∨ k = 6 ∨ k = 7 ∨ k = 8 ∨ k = 9 ∨ k = 10 := by omega
        have key := key (by omega)
        rcases hk with ⟨h5, h6, h7, h8, h9, h10⟩ | hk | hk | hk | hk | hk | hk
        · have e : True := trivial
          simp only [go_sem, h0, h1, h5, h6, h7, h8, h9, h10]
          rcases Classical.em (¬ ((ar.length : Int) = 0)) with ha | ha
          · simp only [go_sem, ha, h5, h6, h7, h8, h9, h10]; refine ret_fun rfl ?_ rfl; rw [tnode_bad (tb_a (by omega) (by simp [h5, h6, h7, h8, h9, h10]) ha)]; rfl
          replace ha := Classical.not_not.1 ha
          rcases Classical.em (¬ (mo = [])) with hm | hm
          · simp only [go_sem, ha, hm, h5, h6, h7, h8, h9, h10]; refine ret_fun rfl ?_ rfl; rw [tnode_bad (tb_m (by omega) hm)]; rfl
          replace hm := Classical.not_not.1 hm
          have hm' := eq_true hm
          by_cases hf : 0 < (fs.length : Int)
          · simp only [go_sem, ha, hm', hf, h5, h6, h7, h8, h9, h10]; refine ret_fun rfl ?_ rfl; rw [tnode_bad (tb_f (by omega) hf)]; rfl
          rcases Classical.em (¬ (n = [])) with hn | hn
          · simp only [go_sem, ha, hm', hf, hn, h5, h6, h7, h8, h9, h10]; refine ret_fun rfl ?_ rfl; rw [tnode_bad (tb_n (by omega) (by omega) hn)]; rfl
          replace hn := Classical.not_not.1 hn
          have hn' := eq_true hn
          simp only [go_sem, ha, hm', hf, hn', h5, h6, h7, h8, h9, h10]
          refine key (tb_no (.inr ⟨by rw [ha]; simp [h5, h6, h7, h8, h9, h10], hm⟩) (.inr hf) (.inr (.inr hn))) _ _ ?_ rfl
          exact (by repeat (first | exact lesA_nil | refine lesA_cons (AV.le_any _) ?_ | refine lesA_cons (AV.le_refl _) ?_ | refine lesA_cons (AV.le_pure rfl) ?_))
        · have e5 : (k = 5) = True := eq_true hk
          have e6 : (k = 6) = False := eq_false (by omega)
          have e7 : (k = 7) = False := eq_false (by omega)
          have e8 : (k = 8) = False := eq_false (by omega)
          have e9 : (k = 9) = False := eq_false (by omega)
          have e10 : (k = 10) = False := eq_false (by omega)
          simp only [go_sem, h0, h1, e5, e6, e7, e8, e9, e10]
          rcases Classical.em (¬ ((ar.length : Int) = 1)) with ha | ha
          · simp only [go_sem, ha, e5, e6, e7, e8, e9, e10]; refine ret_fun rfl ?_ rfl; rw [tnode_bad (tb_a (by omega) (by simp [e5, e6, e7, e8, e9, e10]) ha)]; rfl
          replace ha := Classical.not_not.1 ha
          rcases Classical.em (¬ (mo = [])) with hm | hm
          · simp only [go_sem, ha, hm, e5, e6, e7, e8, e9, e10]; refine ret_fun rfl ?_ rfl; rw [tnode_bad (tb_m (by omega) hm)]; rfl
          replace hm := Classical.not_not.1 hm
          have hm' := eq_true hm
          by_cases hf : 0 < (fs.length : Int)
          · simp only [go_sem, ha, hm', hf, e5, e6, e7, e8, e9, e10]; refine ret_fun rfl ?_ rfl; rw [tnode_bad (tb_f (by omega) hf)]; rfl
          rcases Classical.em (¬ (n = [])) with hn | hn
          · simp only [go_sem, ha, hm', hf, hn, e5, e6, e7, e8, e9, e10]; refine ret_fun rfl ?_ rfl; rw [tnode_bad (tb_n (by omega) (by omega) hn)]; rfl
          replace hn := Classical.not_not.1 hn
          have hn' := eq_true hn
          simp only [go_sem, ha, hm', hf, hn', e5, e6, e7, e8, e9, e10]
          refine key (tb_no (.inr ⟨by rw [ha]; simp [e5, e6, e7, e8, e9, e10], hm⟩) (.inr hf) (.inr (.inr hn))) _ _ ?_ rfl
          exact (by repeat (first | exact lesA_nil | refine lesA_cons (AV.le_any _) ?_ | refine lesA_cons (AV.le_refl _) ?_ | refine lesA_cons (AV.le_pure rfl) ?_))
        · have e5 : (k = 5) = False := eq_false (by omega)
          have e6 : (k = 6) = True := eq_true hk
          have e7 : (k = 7) = False := eq_false (by omega)
          have e8 : (k = 8) = False := eq_false (by omega)
          have e9 : (k = 9) = False := eq_false (by omega)
          have e10 : (k = 10) = False := eq_false (by omega)
          simp only [go_sem, h0, h1, e5, e6, e7, e8, e9, e10]
          rcases Classical.em (¬ ((ar.length : Int) = 0)) with ha | ha
          · simp only [go_sem, ha, e5, e6, e7, e8, e9, e10]; refine ret_fun rfl ?_ rfl; rw [tnode_bad (tb_a (by omega) (by simp [e5, e6, e7, e8, e9, e10]) ha)]; rfl
          replace ha := Classical.not_not.1 ha
          rcases Classical.em (¬ (mo = [])) with hm | hm
          · simp only [go_sem, ha, hm, e5, e6, e7, e8, e9, e10]; refine ret_fun rfl ?_ rfl; rw [tnode_bad (tb_m (by omega) hm)]; rfl
          replace hm := Classical.not_not.1 hm
          have hm' := eq_true hm
          rcases Classical.em (¬ (n = [])) with hn | hn
          · simp only [go_sem, ha, hm', hn, e5, e6, e7, e8, e9, e10]; refine ret_fun rfl ?_ rfl; rw [tnode_bad (tb_n (by omega) (by omega) hn)]; rfl
          replace hn := Classical.not_not.1 hn
          have hn' := eq_true hn
          simp only [go_sem, ha, hm', hn', e5, e6, e7, e8, e9, e10]
          refine key (tb_no (.inr ⟨by rw [ha]; simp [e5, e6, e7, e8, e9, e10], hm⟩) (.inl (by omega)) (.inr (.inr hn))) _ _ ?_ rfl
          exact (by repeat (first | exact lesA_nil | refine lesA_cons (AV.le_any _) ?_ | refine lesA_cons (AV.le_refl _) ?_ | refine lesA_cons (AV.le_pure rfl) ?_))
        · have e5 : (k = 5) = False := eq_false (by omega)
          have e6 : (k = 6) = False := eq_false (by omega)
          have e7 : (k = 7) = True := eq_true hk
          have e8 : (k = 8) = False := eq_false (by omega)
          have e9 : (k = 9) = False := eq_false (by omega)
          have e10 : (k = 10) = False := eq_false (by omega)
          simp only [go_sem, h0, h1, e5, e6, e7, e8, e9, e10]
          rcases Classical.em (¬ ((ar.length : Int) = 0)) with ha | ha
          · simp only [go_sem, ha, e5, e6, e7, e8, e9, e10]; refine ret_fun rfl ?_ rfl; rw [tnode_bad (tb_a (by omega) (by simp [e5, e6, e7, e8, e9, e10]) ha)]; rfl
          replace ha := Classical.not_not.1 ha
          rcases Classical.em (¬ (mo = [])) with hm | hm
          · simp only [go_sem, ha, hm, e5, e6, e7, e8, e9, e10]; refine ret_fun rfl ?_ rfl; rw [tnode_bad (tb_m (by omega) hm)]; rfl
          replace hm := Classical.not_not.1 hm
          have hm' := eq_true hm
          rcases Classical.em (¬ (n = [])) with hn | hn
          · simp only [go_sem, ha, hm', hn, e5, e6, e7, e8, e9, e10]; refine ret_fun rfl ?_ rfl; rw [tnode_bad (tb_n (by omega) (by omega) hn)]; rfl
          replace hn := Classical.not_not.1 hn
          have hn' := eq_true hn
          simp only [go_sem, ha, hm', hn', e5, e6, e7, e8, e9, e10]
          refine key (tb_no (.inr ⟨by rw [ha]; simp [e5, e6, e7, e8, e9, e10], hm⟩) (.inl (by omega)) (.inr (.inr hn))) _ _ ?_ rfl
          exact (by repeat (first | exact lesA_nil | refine lesA_cons (AV.le_any _) ?_ | refine lesA_cons (AV.le_refl _) ?_ | refine lesA_cons (AV.le_pure rfl) ?_))
        · have e5 : (k = 5) = False := eq_false (by omega)
          have e6 : (k = 6) = False := eq_false (by omega)
          have e7 : (k = 7) = False := eq_false (by omega)
          have e8 : (k = 8) = True := eq_true hk
          have e9 : (k = 9) = False := eq_false (by omega)
          have e10 : (k = 10) = False := eq_false (by omega)
          simp only [go_sem, h0, h1, e5, e6, e7, e8, e9, e10]
          rcases Classical.em (¬ ((ar.length : Int) = 1)) with ha | ha
          · simp only [go_sem, ha, e5, e6, e7, e8, e9, e10]; refine ret_fun rfl ?_ rfl; rw [tnode_bad (tb_a (by omega) (by simp [e5, e6, e7, e8, e9, e10]) ha)]; rfl
          replace ha := Classical.not_not.1 ha
          rcases Classical.em (¬ (mo = [])) with hm | hm
          · simp only [go_sem, ha, hm, e5, e6, e7, e8, e9, e10]; refine ret_fun rfl ?_ rfl; rw [tnode_bad (tb_m (by omega) hm)]; rfl
          replace hm := Classical.not_not.1 hm
          have hm' := eq_true hm
          rcases Classical.em (¬ (n = [])) with hn | hn
          · simp only [go_sem, ha, hm', hn, e5, e6, e7, e8, e9, e10]; refine ret_fun rfl ?_ rfl; rw [tnode_bad (tb_n (by omega) (by omega) hn)]; rfl
          replace hn := Classical.not_not.1 hn
          have hn' := eq_true hn
          simp only [go_sem, ha, hm', hn', e5, e6, e7, e8, e9, e10]
          refine key (tb_no (.inr ⟨by rw [ha]; simp [e5, e6, e7, e8, e9, e10], hm⟩) (.inl (by omega)) (.inr (.inr hn))) _ _ ?_ rfl
          exact (by repeat (first | exact lesA_nil | refine lesA_cons (AV.le_any _) ?_ | refine lesA_cons (AV.le_refl _) ?_ | refine lesA_cons (AV.le_pure rfl) ?_))
        · have e5 : (k = 5) = False := eq_false (by omega)
          have e6 : (k = 6) = False := eq_false (by omega)
          have e7 : (k = 7) = False := eq_false (by omega)
          have e8 : (k = 8) = False := eq_false (by omega)
          have e9 : (k = 9) = True := eq_true hk
          have e10 : (k = 10) = False := eq_false (by omega)
          simp only [go_sem, h0, h1, e5, e6, e7, e8, e9, e10]
          rcases Classical.em (¬ ((ar.length : Int) = 0)) with ha | ha
          · simp only [go_sem, ha, e5, e6, e7, e8, e9, e10]; refine ret_fun rfl ?_ rfl; rw [tnode_bad (tb_a (by omega) (by simp [e5, e6, e7, e8, e9, e10]) ha)]; rfl
          replace ha := Classical.not_not.1 ha
          rcases Classical.em (¬ (mo = [])) with hm | hm
          · simp only [go_sem, ha, hm, e5, e6, e7, e8, e9, e10]; refine ret_fun rfl ?_ rfl; rw [tnode_bad (tb_m (by omega) hm)]; rfl
          replace hm := Classical.not_not.1 hm
          have hm' := eq_true hm
          by_cases hf : 0 < (fs.length : Int)
          · simp only [go_sem, ha, hm', hf, e5, e6, e7, e8, e9, e10]; refine ret_fun rfl ?_ rfl; rw [tnode_bad (tb_f (by omega) hf)]; rfl
          simp only [go_sem, ha, hm', hf, e5, e6, e7, e8, e9, e10]
          refine key (tb_no (.inr ⟨by rw [ha]; simp [e5, e6, e7, e8, e9, e10], hm⟩) (.inr hf) (.inr (.inl (by omega)))) _ _ ?_ rfl
          exact (by repeat (first | exact lesA_nil | refine lesA_cons (AV.le_any _) ?_ | refine lesA_cons (AV.le_refl _) ?_ | refine lesA_cons (AV.le_pure rfl) ?_))
        · have e5 : (k = 5) = False := eq_false (by omega)
          have e6 : (k = 6) = False := eq_false (by omega)
          have e7 : (k = 7) = False := eq_false (by omega)
          have e8 : (k = 8) = False := eq_false (by omega)
          have e9 : (k = 9) = False := eq_false (by omega)
          have e10 : (k = 10) = True := eq_true hk
          simp only [go_sem, h0, h1, e5, e6, e7, e8, e9, e10]
          by_cases hf : 0 < (fs.length : Int)
          · simp only [go_sem, hf, e5, e6, e7, e8, e9, e10]; refine ret_fun rfl ?_ rfl; rw [tnode_bad (tb_f (by omega) hf)]; rfl
          simp only [go_sem, hf, e5, e6, e7, e8, e9, e10]
          refine key (tb_no (.inl (by omega)) (.inr hf) (.inl (by omega))) _ _ ?_ rfl
          exact (by repeat (first | exact lesA_nil | refine lesA_cons (AV.le_any _) ?_ | refine lesA_cons (AV.le_refl _) ?_ | refine lesA_cons (AV.le_pure rfl) ?_))
  case h =>
    intro hr hb ts H hts hH
    subst hH
    have hT := tnode_ok (k := k) (mo := mo) (n := n) (ar := ar) (fs := fs) hr hb
    rw [hT]
    have hp : ∀ i (hlt : i < fs.length), optBad k (fs.drop i) = (fs[i].opt && decide (k ≠ 8) || optBad k (fs.drop (i + 1))) := fun i hlt => by rw [List.drop_eq_getElem_cons hlt, optBad_cons]
    have hq : ∀ i (hlt : i < fs.length), nameBad (fs.drop i) = (!isName fs[i].name || nameBad (fs.drop (i + 1))) := fun i hlt => by rw [List.drop_eq_getElem_cons hlt, nameBad_cons]
    have hv1 : optBad k fs = true → tnode3 k mo n ar fs = 1 := fun h => if_pos h
    have hv2 : optBad k fs = false → (32 < (fs.length : Int) ∨ k = 10 ∧ 8 < (ar.length : Int)) → tnode3 k mo n ar fs = 7 := fun h h2 => by
      unfold tnode3; rw [if_neg (by rw [show (fs.any fun f => f.opt && decide (k ≠ 8)) = optBad k fs from rfl, h]; simp), if_pos h2]
    have hv3 : optBad k fs = false → ¬ (32 < (fs.length : Int) ∨ k = 10 ∧ 8 < (ar.length : Int)) → (k = 9 ∧ variable' n = false ∨ k = 10 ∧ (module mo = false ∨ isType n = false)) → tnode3 k mo n ar fs = 4 := fun h h2 h3 => by
      unfold tnode3; rw [if_neg (by rw [show (fs.any fun f => f.opt && decide (k ≠ 8)) = optBad k fs from rfl, h]; simp), if_neg h2, if_pos h3]
    have hv4 : optBad k fs = false → ¬ (32 < (fs.length : Int) ∨ k = 10 ∧ 8 < (ar.length : Int)) → ¬ (k = 9 ∧ variable' n = false ∨ k = 10 ∧ (module mo = false ∨ isType n = false)) → tnode3 k mo n ar fs = if nameBad fs then 4 else nbs (fs.map Fd.name) := fun h h2 h3 => by
      unfold tnode3; rw [if_neg (by rw [show (fs.any fun f => f.opt && decide (k ≠ 8)) = optBad k fs from rfl, h]; simp), if_neg h2, if_neg h3]; rfl
    generalize tnode3 k mo n ar fs = v at *
    refine awp_loop (ι := Nat) (fun i => [.any, .ptr 0 0, .any, .any, .any, .d (.int .i64 i), .any, .any, .any, .any, .any, .any, .any, .any, .any, .any, .any, .any, .any, .any, .any, .any, .any, .any, .any, .any, .any, .any, .any, .any, .any, .any, .any, .any, .any, .any, .any, .any, .any, .any, .any, .any, .any, .any, .any, .any, .any, .any, .any, .any, .any, .any, .any, .any, .any, .any, .any, .any, .any, .any, .any, .any, .any, .any, .any, .any, .any, .any, .any, .any, .any, .any, .any, .any, .any, .any, .any, .any, .any, .any, .any, .any, .any, .any, .any, .any, .any, .any, .any, .any, .any, .any, .any, .any, .any, .any, .any, .any, .any, .any, .any, .any, .any, .any, .any, .any, .any, .any, .any, .any, .any, .any, .any, .any, .any, .any, .any, .any, .any, .any, .any, .any, .any, .any, .any, .any, .any, .any, .any, .any, .any, .any, .any, .any, .any, .any, .any, .any, .any, .any, .any, .any, .any, .any, .any, .any, .any, .any, .any, .any, .any, .any, .any, .any, .any, .any, .any, .any, .any, .any, .any, .any, .any, .any, .any, .any, .any, .any, .any, .any, .any, .any, .any, .any, .any, .any]) (fun _ => _) (fun i => fs.length - i) (fun i => i ≤ fs.length ∧ optBad k fs = optBad k (fs.drop i)) 0 ⟨by omega, rfl⟩ (Weak.les hts) ?_
    rintro i ⟨hi, ha⟩
    simp only [go_sem]
    refine cnd_lt (fun hlt => ?_) (fun hge => ?_)
    · rw [hp i hlt] at ha
      simp only [go_sem]
      refine res_index rfl rfl (by omega) (map_at Fd.enc hlt) (Fd.enc_len _) ?_
      simp only [go_sem, Fd.enc_eq]
      cases ho : fs[i].opt
      · simp only [go_sem, wrap_succ (i := i) (by omega)]
        exact ⟨i + 1, by show _ - (i + 1) < _ - i; omega, ⟨hlt, by rw [ha, ho]; rfl⟩, Weak.les (by repeat (first | exact lesA_nil | refine lesA_cons (AV.le_any _) ?_ | refine lesA_cons (AV.le_refl _) ?_ | refine lesA_cons (AV.le_pure rfl) ?_))⟩
      · by_cases h8 : k = 8
        · have h8' := eq_true h8
          simp only [go_sem, h8', wrap_succ (i := i) (by omega)]
          exact ⟨i + 1, by show _ - (i + 1) < _ - i; omega, ⟨hlt, by rw [ha, ho]; simp [h8]⟩, Weak.les (by repeat (first | exact lesA_nil | refine lesA_cons (AV.le_any _) ?_ | refine lesA_cons (AV.le_refl _) ?_ | refine lesA_cons (AV.le_pure rfl) ?_))⟩
        · simp only [go_sem, h8]
          rw [hv1 (by rw [ha, ho]; simp [h8])]; exact ret_fun rfl (by simp [go_sem]) rfl
    · have hnil : fs.drop i = [] := List.drop_eq_nil_of_le hge
      rw [hnil] at ha
      replace ha : optBad k fs = false := ha
      clear hi hge hnil hv1
      have hv2 := hv2 ha
      have hv3 := hv3 ha
      have hv4 := hv4 ha
      simp only [go_sem]
      by_cases h32 : 32 < (fs.length : Int)
      · simp only [go_sem, h32]; rw [hv2 (.inl h32)]; exact ret_fun rfl (by simp [go_sem]) rfl
      · by_cases h3 : k = 10 ∧ 8 < (ar.length : Int)
        · have h3a := eq_true h3.1
          have h3b := h3.2
          simp only [go_sem, h32, h3a, h3b]; rw [hv2 (.inr h3)]; exact ret_fun rfl (by simp [go_sem]) rfl
        · have h4 : ¬ (32 < (fs.length : Int) ∨ k = 10 ∧ 8 < (ar.length : Int)) := fun h => h.elim h32 h3
          have hv3 := hv3 h4
          have hv4 := hv4 h4
          refine (fun (key : (fun (c : Code) (Q : AQ) => ¬ (k = 9 ∧ variable' n = false ∨ k = 10 ∧ (module mo = false ∨ isType n = false)) → ∀ ts, lesA ts [.any, .ptr 0 0, .any, .any, .any, .any, .d (.int .i64 0), .any, .any, .any, .any, .any, .any, .any, .any, .any, .any, .any, .any, .any, .any, .any, .any, .any, .any, .any, .any, .any, .any, .any, .any, .any, .any, .any, .any, .any, .any, .any, .any, .any, .any, .any, .any, .any, .any, .any, .any, .any, .any, .any, .any, .any, .any, .any, .any, .any, .any, .any, .any, .any, .any, .any, .any, .any, .any, .any, .any, .any, .any, .any, .any, .any, .any, .any, .any, .any, .any, .any, .any, .any, .any, .any, .any, .any, .any, .any, .any, .any, .any, .any, .any, .any, .any, .any, .any, .any, .any, .any, .any, .any, .any, .any, .any, .any, .any, .any, .any, .any, .any, .any, .any, .any, .any, .any, .any, .any, .any, .any, .any, .any, .any, .any, .any, .any, .any, .any, .any, .any, .any, .any, .any, .any, .any, .any, .any, .any, .any, .any, .any, .any, .any, .any, .any, .any, .any, .any, .any, .any, .any, .any, .any, .any, .any, .any, .any, .any, .any, .any, .any, .any, .any, .any, .any, .any, .any, .any, .any, .any, .any, .any, .any, .any, .any, .any, .any, .any] → awp Tryz.prog false 0 c Q ts [HO.cells [.d (.int .i64 k), .d (.str mo), .d (.str n), .d (.sl false (ar.map Ty.enc)), .d (.sl false (fs.map Fd.enc))]]) ?c2 ?Q2) => ?main2) ?h2
          case main2 =>
            by_cases h9 : k = 9
            · have e9 := eq_true h9
              have e10 : (k = 10) = False := eq_false (by omega)
              simp only [go_sem, h32, e9, e10]
              refine (ref_Variable n hs2).call rfl rfl ?_
              cases hvn : variable' n
              · simp only [go_sem]
                rw [hv3 (.inl ⟨h9, hvn⟩)]; exact ret_fun rfl (by simp [go_sem]) rfl
              · simp only [go_sem, e9, e10]
                refine key (by rw [hvn]; simp [e10]) _ ?_
                exact (by repeat (first | exact lesA_nil | refine lesA_cons (AV.le_any _) ?_ | refine lesA_cons (AV.le_refl _) ?_ | refine lesA_cons (AV.le_pure rfl) ?_))
            · by_cases h10 : k = 10
              · have e10 := eq_true h10
                have h8 : ¬ 8 < (ar.length : Int) := fun h => h3 ⟨h10, h⟩
                simp only [go_sem, h32, h9, e10, h8]
                refine (ref_module mo hs1).call rfl rfl ?_
                cases hm : module mo
                · simp only [go_sem]
                  rw [hv3 (.inr ⟨h10, .inl hm⟩)]; exact ret_fun rfl (by simp [go_sem]) rfl
                · simp only [go_sem]
                  refine (ref_IsType n (by omega)).call rfl rfl ?_
                  cases ht : isType n
                  · simp only [go_sem]
                    rw [hv3 (.inr ⟨h10, .inr ht⟩)]; exact ret_fun rfl (by simp [go_sem]) rfl
                  · simp only [go_sem, h9, e10]
                    refine key (by rw [hm, ht]; simp [h9]) _ ?_
                    exact (by repeat (first | exact lesA_nil | refine lesA_cons (AV.le_any _) ?_ | refine lesA_cons (AV.le_refl _) ?_ | refine lesA_cons (AV.le_pure rfl) ?_))
              · simp only [go_sem, h32, h9, h10]
                refine key (by simp [h9, h10]) _ ?_
                exact (by repeat (first | exact lesA_nil | refine lesA_cons (AV.le_any _) ?_ | refine lesA_cons (AV.le_refl _) ?_ | refine lesA_cons (AV.le_pure rfl) ?_))
          case h2 =>
            intro h5 ts hts
            rw [hv4 h5]
            clear hv2 hv3 hv4
            refine awp_loop (ι := Nat) (fun i => [.any, .ptr 0 0, .any, .any, .any, .any, .d (.int .i64 i), .any, .any, .any, .any, .any, .any, .any, .any, .any, .any, .any, .any, .any, .any, .any, .any, .any, .any, .any, .any, .any, .any, .any, .any, .any, .any, .any, .any, .any, .any, .any, .any, .any, .any, .any, .any, .any, .any, .any, .any, .any, .any, .any, .any, .any, .any, .any, .any, .any, .any, .any, .any, .any, .any, .any, .any, .any, .any, .any, .any, .any, .any, .any, .any, .any, .any, .any, .any, .any, .any, .any, .any, .any, .any, .any, .any, .any, .any, .any, .any, .any, .any, .any, .any, .any, .any, .any, .any, .any, .any, .any, .any, .any, .any, .any, .any, .any, .any, .any, .any, .any, .any, .any, .any, .any, .any, .any, .any, .any, .any, .any, .any, .any, .any, .any, .any, .any, .any, .any, .any, .any, .any, .any, .any, .any, .any, .any, .any, .any, .any, .any, .any, .any, .any, .any, .any, .any, .any, .any, .any, .any, .any, .any, .any, .any, .any, .any, .any, .any, .any, .any, .any, .any, .any, .any, .any, .any, .any, .any, .any, .any, .any, .any, .any, .any, .any, .any, .any, .any]) (fun _ => _) (fun i => fs.length - i) (fun i => i ≤ fs.length ∧ nameBad fs = nameBad (fs.drop i)) 0 ⟨by omega, rfl⟩ (Weak.les hts) ?_
            rintro i ⟨hi, ha⟩
            simp only [go_sem]
            refine cnd_lt (fun hlt => ?_) (fun hge => ?_)
            · rw [hq i hlt] at ha
              simp only [go_sem]
              refine res_index rfl rfl (by omega) (map_at Fd.enc hlt) (Fd.enc_len _) ?_
              simp only [go_sem, Fd.enc_eq]
              refine (ref_IsName _ (by have := hs3 _ (List.getElem_mem hlt); omega)).call rfl rfl ?_
              cases hc : isName fs[i].name
              · simp only [go_sem]
                rw [ha, hc]; exact ret_fun rfl (by simp [go_sem]) rfl
              · simp only [go_sem, wrap_succ (i := i) (by omega)]
                exact ⟨i + 1, by show _ - (i + 1) < _ - i; omega, ⟨hlt, by rw [ha, hc]; rfl⟩, Weak.les (by repeat (first | exact lesA_nil | refine lesA_cons (AV.le_any _) ?_ | refine lesA_cons (AV.le_refl _) ?_ | refine lesA_cons (AV.le_pure rfl) ?_))⟩
            · have hnil : fs.drop i = [] := List.drop_eq_nil_of_le hge
              rw [hnil] at ha
              replace ha : nameBad fs = false := ha
              clear hi hge hnil
              rw [ha]
              simp only [go_sem]
              refine awp_loop (ι := Nat) (fun i => [.any, .ptr 0 0, .any, .any, .any, .any, .any, .d (.int .i64 i), .any, .any, .any, .any, .any, .any, .any, .any, .any, .any, .any, .any, .any, .any, .any, .any, .any, .any, .any, .any, .any, .any, .any, .any, .any, .any, .any, .any, .any, .any, .any, .any, .any, .any, .any, .any, .any, .any, .any, .any, .any, .any, .any, .any, .any, .any, .any, .any, .any, .any, .any, .any, .any, .any, .any, .any, .any, .any, .any, .any, .any, .any, .any, .any, .any, .any, .any, .any, .any, .any, .any, .any, .any, .any, .any, .any, .any, .any, .any, .any, .any, .any, .any, .any, .any, .any, .any, .any, .any, .any, .any, .any, .any, .any, .any, .any, .any, .any, .any, .any, .any, .any, .any, .any, .any, .any, .any, .any, .any, .any, .any, .any, .any, .any, .any, .any, .any, .any, .any, .any, .any, .any, .any, .any, .any, .any, .any, .any, .any, .any, .any, .any, .any, .any, .any, .any, .any, .any, .any, .any, .any, .any, .any, .any, .any, .any, .any, .any, .any, .any, .any, .any, .any, .any, .any, .any, .any, .any, .any, .any, .any, .any, .any, .any, .any, .any, .any, .any]) (fun _ => _) (fun i => fs.length - i) (fun i => 1 ≤ i ∧ nbs (fs.map Fd.name) = nbs ((fs.drop (i - 1)).map Fd.name)) 1 ⟨by omega, rfl⟩ (Weak.les (by repeat (first | exact lesA_nil | refine lesA_cons (AV.le_any _) ?_ | refine lesA_cons (AV.le_refl _) ?_ | refine lesA_cons (AV.le_pure rfl) ?_))) ?_
              rintro i ⟨hi, ha⟩
              simp only [go_sem]
              refine cnd_lt (fun hlt => ?_) (fun hge => ?_)
              · have hlt1 : i - 1 < fs.length := by omega
                have hd1 := List.drop_eq_getElem_cons hlt1
                have hd2 := List.drop_eq_getElem_cons hlt
                rw [show i - 1 + 1 = i by omega, hd2] at hd1
                rw [hd1, List.map_cons, List.map_cons, nbs] at ha
                have e1 : IntKind.i64.wrap ((i : Int) - 1) = ((i - 1 : Nat) : Int) := by rw [wrap_i64 (by omega) (by omega)]; omega
                simp only [go_sem]
                refine awp_draw0 [false, false, false, false, false, false, false, false, false, false, false, false, false, false, false] mixed (by kernel_rfl) ?_
                simp only [go_sem, e1]
                refine res_index rfl rfl (by omega) (map_at Fd.enc hlt1) (Fd.enc_len _) ?_
                simp only [go_sem, Fd.enc_eq]
                refine res_index rfl rfl (by omega) (map_at Fd.enc hlt) (Fd.enc_len _) ?_
                simp only [go_sem, Fd.enc_eq]
                refine (ref_neighbours _ _).callX rfl rfl ?_
                simp only [go_sem]
                by_cases hc : nb fs[i - 1].name fs[i].name = 0
                · have hc' := eq_true hc
                  simp only [go_sem, hc', wrap_succ (i := i) (by omega)]
                  refine ⟨i + 1, by show _ - (i + 1) < _ - i; omega, ⟨by omega, ?_⟩, Weak.les (by repeat (first | exact lesA_nil | refine lesA_cons (AV.le_any _) ?_ | refine lesA_cons (AV.le_refl _) ?_ | refine lesA_cons (AV.le_pure rfl) ?_))⟩
                  rw [ha, if_pos hc, Nat.add_sub_cancel, hd2, List.map_cons]
                · simp only [go_sem, hc]
                  rw [ha, if_neg hc]; exact ret_fun rfl (by simp [go_sem]) rfl
              · simp only [go_sem]
                have : nbs ((fs.drop (i - 1)).map Fd.name) = 0 := by
                  have hl : (fs.drop (i - 1)).length ≤ 1 := by simp; omega
                  match hx : fs.drop (i - 1), hl with
                  | [], _ => rfl
                  | [_], _ => rfl
                rw [ha, this]; exact ret_fun rfl (by simp [go_sem]) rfl

theorem ref_typeForm (t : Ty) (hg : t.good) : Fun Tryz.prog 66 [agg t.enc] (.d (.int .i64 (firstErr (t.nodes.map tnode)))) := by
  revert hg
  refine ty_induct (M := fun t => t.good → Fun Tryz.prog 66 [agg t.enc] (.d (.int .i64 (firstErr (t.nodes.map tnode))))) (fun t ih hg => ?_) t
  have hs := hg.2
  have hp := t.parts_le
  rw [firstErr_nodes]
  refine ACalls.of_awp false Tryz.func66 (by decide) rfl ?_
  simp only [show Tryz.f66.ntmps = 28 from rfl, List.length_cons, List.length_nil, Nat.reduceAdd, Nat.reduceSub, List.replicate, List.cons_append, List.nil_append, agg, List.map_cons, List.map_nil]
  simp only [go_sem]
  refine (ref_typeNode t hg).call (by simp only [go_sem, agg]) rfl ?_
  by_cases h1 : tnode t = 0
  · have h1' := eq_true h1
    rw [if_pos h1]
    simp only [go_sem, h1']
    refine (ref_Parts t hg).call (by simp only [go_sem, agg]) rfl ?_
    simp only [go_sem]
    refine awp_loop (ι := Nat) (fun i => [.any, .any, .any, .any, .d (.sl false (t.parts.map Ty.enc)), .d (.int .i64 i), .any, .any, .any, .any, .any, .any, .any, .any, .any, .any, .any, .any, .any, .any, .any, .any, .any, .any, .any, .any, .any, .any]) (fun _ => []) (fun i => t.parts.length - i)
      (fun i => i ≤ t.parts.length ∧ firstErr (t.parts.map fun p => firstErr (p.nodes.map tnode)) = firstErr ((t.parts.drop i).map fun p => firstErr (p.nodes.map tnode))) 0 ⟨by omega, rfl⟩ (Weak.ld 0 (by repeat (first | exact lesA_nil | refine lesA_cons (AV.le_any _) ?_ | refine lesA_cons (AV.le_refl _) ?_ | refine lesA_cons (AV.le_pure rfl) ?_)) (Nat.le_refl _) (by simp) (by simp [go_sem]) (by simp)) ?_
    rintro i ⟨hi, ha⟩
    simp only [go_sem]
    refine cnd_lt (fun hlt => ?_) (fun hge => ?_)
    · have hd := List.drop_eq_getElem_cons hlt
      rw [hd, List.map_cons, firstErr] at ha
      have hm : t.parts[i] ∈ t.parts := List.getElem_mem hlt
      simp only [go_sem]
      refine res_index rfl rfl (by omega) (map_at Ty.enc hlt) (Ty.enc_len _) ?_
      simp only [go_sem]
      refine (ih _ hm (hg.part hm)).call (by simp only [go_sem, agg]) rfl ?_
      by_cases hc : firstErr (t.parts[i].nodes.map tnode) = 0
      · have hc' := eq_true hc
        simp only [go_sem, hc', wrap_succ (i := i) (by omega)]
        exact ⟨i + 1, by show _ - (i + 1) < _ - i; omega, ⟨hlt, by rw [ha, if_pos hc]⟩, Weak.les (by repeat (first | exact lesA_nil | refine lesA_cons (AV.le_any _) ?_ | refine lesA_cons (AV.le_refl _) ?_ | refine lesA_cons (AV.le_pure rfl) ?_))⟩
      · simp only [go_sem, hc]
        rw [ha, if_neg hc]; exact ret_fun rfl (by simp [go_sem]) rfl
    · simp only [go_sem]
      have hnil : t.parts.drop i = [] := List.drop_eq_nil_of_le hge
      rw [ha, hnil]; exact ret_fun rfl (by simp [go_sem, firstErr]) rfl
  · simp only [go_sem, h1]
    exact ret_fun rfl (by simp [go_sem]) rfl

def checkTy (t : Ty) : Int := if 4096 < (t.size : Int) ∨ 32 < (t.depth : Int) then 7 else firstErr (t.nodes.map tnode)
theorem ref_CheckType (t : Ty) (hg : t.good) : Fun Tryz.prog 29 [agg t.enc] (.d (.int .i64 (checkTy t))) := by
  refine ACalls.of_awp false Tryz.func29 (by decide) rfl ?_
  simp only [show Tryz.f29.ntmps = 13 from rfl, List.length_cons, List.length_nil, Nat.reduceAdd, Nat.reduceSub, List.replicate, List.cons_append, List.nil_append, agg, List.map_cons, List.map_nil]
  unfold checkTy
  simp only [go_sem]
  refine (ref_TypeSize t hg).call (by simp only [go_sem, agg]) rfl ?_
  by_cases h1 : 4096 < (t.size : Int)
  · simp only [go_sem, h1]; exact ret_fun rfl (by simp [go_sem, h1]) rfl
  · simp only [go_sem, h1]
    refine (ref_TypeDepth t hg).call (by simp only [go_sem, agg]) rfl ?_
    by_cases h2 : 32 < (t.depth : Int)
    · simp only [go_sem, h2]; exact ret_fun rfl (by simp [go_sem, h2]) rfl
    · simp only [go_sem, h2]
      refine (ref_typeForm t hg).call (by simp only [go_sem, agg]) rfl ?_
      simp only [go_sem]; exact ret_fun rfl (by simp [go_sem, h1, h2]) rfl

end Go.Proofs.YthhmioodienlmaaGreatDoor

/- Contracts of the reference's functions on environments (chapter 7), and of types in them (chapter 8). -/
namespace Go.Proofs.YthhmioodienlmaaGreatDoor
open Go
set_option maxRecDepth 20000
set_option pp.deepTerms false
set_option pp.deepTerms.threshold 6
variable {P : Program} {H : List HO}

theorem res_storeA {n b el : Nat} {ag isS isM : Bool} {fs : List (Nat × Nat × Bool)} {al : Option Nat} {ky : TypeId} {ki : Option IntKind} {st : Bool} {z : List D} {id off : Nat} {cs new : List AV} {K : AV → List HO → Prop} (hc : hcells H id = some cs) (hnew : new.all AV.one = true) (hn : new.length = n) (hx : off + n ≤ cs.length)
    (h : K (.tup []) (H.set id (.cells (splice cs off new)))) : res (oStore (some ⟨n, b, ag, fs, el, al, isS, isM, ky, ki, st, z⟩) (.ptr id off) (.agg new) H) K := by
  rw [oStore_agg hc hnew hn hx]; exact h

theorem res_storeAll {n b el : Nat} {ag isS isM : Bool} {fs : List (Nat × Nat × Bool)} {al : Option Nat} {ky : TypeId} {ki : Option IntKind} {st : Bool} {z : List D} {id : Nat} {cs new : List AV} {K : AV → List HO → Prop} (hc : H[id]? = some (.cells cs)) (hnew : new.all AV.one = true) (hn : new.length = n) (hx : cs.length = n)
    (h : K (.tup []) (H.set id (.cells new))) : res (oStore (some ⟨n, b, ag, fs, el, al, isS, isM, ky, ki, st, z⟩) (.ptr id 0) (.agg new) H) K := by
  refine res_storeA (cs := cs) (by simp [hcells, hc]) hnew hn (by omega) ?_
  have : splice cs 0 new = new := by simp [splice]; omega
  rw [this]; exact h
theorem oBuild_nil {n b el : Nat} {isS isM : Bool} {fs : List (Nat × Nat × Bool)} {ky : TypeId} {ki : Option IntKind} {st : Bool} {z : List D} {te : Option TInf} :
    oBuild (some ⟨n, b, true, fs, el, none, isS, isM, ky, ki, st, z⟩) te [] H = some (.agg (z.map .d), H) := by rfl
attribute [go_sem] oBuild_nil

theorem hcells_at {id : Nat} {cs : List AV} (h : H[id]? = some (.cells cs)) : hcells H id = some cs := by simp [hcells, h]
theorem load_all {n b el : Nat} {isS isM : Bool} {fs : List (Nat × Nat × Bool)} {al : Option Nat} {ky : TypeId} {ki : Option IntKind} {st : Bool} {z : List D} {cs : List D} (h : cs.length = n) :
    oLoad (some ⟨n, b, true, fs, el, al, isS, isM, ky, ki, st, z⟩) (.d (.ptr cs)) H = some (.agg (cs.map .d), H) := by
  rw [oLoad_dn (by omega), ← h, List.take_length]

theorem TE.take (x : TE) : List.take 12 (List.map AV.d x.enc) = List.map AV.d x.enc := List.take_of_length_le (by simp [TE.enc_len])
theorem VE.take (x : VE) : List.take 7 (List.map AV.d x.enc) = List.map AV.d x.enc := List.take_of_length_le (by simp [VE.enc_len])
theorem AE.take (x : AE) : List.take 3 (List.map AV.d x.enc) = List.map AV.d x.enc := List.take_of_length_le (by simp [AE.enc_len])
theorem If.take (x : If) : List.take 5 (List.map AV.d x.enc) = List.map AV.d x.enc := List.take_of_length_le (by simp [If.enc_len])
attribute [go_sem] TE.take VE.take AE.take If.take Pa.enc_norm TE.enc_norm VE.enc_norm AE.enc_norm DE.enc_norm If.enc_norm

def zTy : Ty := .mk 0 [] [] [] []
def zIf : If := ⟨[], [], [], [], []⟩
def zTE : TE := ⟨[], [], zTy, zTy⟩
def zVE : VE := ⟨[], [], zTy⟩
def zAE : AE := ⟨[], [], []⟩

def fIf (p : Str) : List If → Option If
  | [] => none
  | x :: l => if x.path = p then some x else fIf p l
def fTE (p : Str) : List TE → Option TE
  | [] => none
  | x :: l => if x.name = p then some x else fTE p l
def fVE (p : Str) : List VE → Option VE
  | [] => none
  | x :: l => if x.name = p then some x else fVE p l
def fAE (p : Str) : List AE → Option AE
  | [] => none
  | x :: l => if x.name = p then some x else fAE p l

theorem ref_Find (env : Env) (p : Str) (h : env.length ≤ 1048576) : Fun Tryz.prog 13 [.d (.sl false (env.map If.enc)), .d (.str p)] (.tup [agg ((fIf p env).getD zIf).enc, .d (.bool (fIf p env).isSome)]) := by
  refine ACalls.of_awp false Tryz.func13 (by decide) rfl ?_
  simp only [show Tryz.f13.ntmps = 25 from rfl, List.length_cons, List.length_nil, Nat.reduceAdd, Nat.reduceSub, List.replicate, List.cons_append, List.nil_append, agg, List.map_cons, List.map_nil]
  simp only [go_sem]
  refine awp_loop (ι := Nat) (fun i => [.d (.sl false (env.map If.enc)), .d (.str p), .any, .any, .ptr 0 0, .any, .d (.int .i64 i), .any, .any, .any, .any, .any, .any, .any, .any, .any, .any, .any, .any, .any, .any, .any, .any, .any, .any]) (fun _ => _) (fun i => env.length - i) (fun i => i ≤ env.length ∧ fIf p env = fIf p (env.drop i)) 0 ⟨by omega, rfl⟩ (Weak.les (by repeat (first | exact lesA_nil | refine lesA_cons (AV.le_any _) ?_ | refine lesA_cons (AV.le_refl _) ?_ | refine lesA_cons (AV.le_pure rfl) ?_))) ?_
  rintro i ⟨hi, ha⟩
  simp only [go_sem]
  refine cnd_lt (fun hlt => ?_) (fun hge => ?_)
  · have hd := List.drop_eq_getElem_cons hlt
    rw [hd, fIf] at ha
    simp only [go_sem]
    refine res_index rfl rfl (by omega) (map_at If.enc hlt) (If.enc_len _) ?_
    simp only [go_sem, If.enc_eq]
    by_cases hc : env[i].path = p
    · simp only [go_sem, hc]
      refine res_index rfl rfl (by omega) (map_at If.enc hlt) (If.enc_len _) ?_
      simp only [go_sem, If.enc_eq]
      refine res_storeA hcells_zero rfl rfl (by simp) ?_
      simp only [go_sem]
      rw [ha, if_pos hc]
      rw [show Tryz.f13.results.toList = [.cell 4 40, .tmp 5] from rfl]; refine ret_fun (by simp only [ares, aresL, ares1_cell, ares1_tmp, go_sem]; rfl) ?_ (by simp [go_sem, agg])
      simp [go_sem, If.enc_eq, hc, splice]
    · simp only [go_sem, hc, wrap_succ (i := i) (by omega)]
      exact ⟨i + 1, by show _ - (i + 1) < _ - i; omega, ⟨hlt, by rw [ha, if_neg hc]⟩, Weak.les (by repeat (first | exact lesA_nil | refine lesA_cons (AV.le_any _) ?_ | refine lesA_cons (AV.le_refl _) ?_ | refine lesA_cons (AV.le_pure rfl) ?_))⟩
  · simp only [go_sem]
    have : env.drop i = [] := List.drop_eq_nil_of_le hge
    rw [ha, this]
    refine res_storeA hcells_zero rfl rfl (by simp) ?_
    simp only [go_sem]
    rw [show Tryz.f13.results.toList = [.cell 4 40, .tmp 5] from rfl]; refine ret_fun (by simp only [ares, aresL, ares1_cell, ares1_tmp, go_sem]; rfl) ?_ (by simp [go_sem, agg])
    simp [go_sem, fIf, If.enc_eq, zIf, splice]

theorem ref_TypeEntry (x : If) (p : Str) (h : x.types.length ≤ 1048576) : Fun Tryz.prog 20 [agg x.enc, .d (.str p)] (.tup [agg ((fTE p x.types).getD zTE).enc, .d (.bool (fTE p x.types).isSome)]) := by
  refine ACalls.of_awp false Tryz.func20 (by decide) rfl ?_
  simp only [show Tryz.f20.ntmps = 28 from rfl, List.length_cons, List.length_nil, Nat.reduceAdd, Nat.reduceSub, List.replicate, List.cons_append, List.nil_append, agg, List.map_cons, List.map_nil]
  simp only [If.enc_eq, List.map_cons, List.map_nil]
  simp only [go_sem]
  refine awp_loop (ι := Nat) (fun i => [.any, .d (.str p), .ptr 0 0, .any, .ptr 1 0, .any, .d (.int .i64 i), .any, .any, .any, .any, .any, .any, .any, .any, .any, .any, .any, .any, .any, .any, .any, .any, .any, .any, .any, .any, .any]) (fun _ => _) (fun i => x.types.length - i) (fun i => i ≤ x.types.length ∧ fTE p x.types = fTE p (x.types.drop i)) 0 ⟨by omega, rfl⟩ (Weak.les (by repeat (first | exact lesA_nil | refine lesA_cons (AV.le_any _) ?_ | refine lesA_cons (AV.le_refl _) ?_ | refine lesA_cons (AV.le_pure rfl) ?_))) ?_
  rintro i ⟨hi, ha⟩
  simp only [go_sem]
  refine cnd_lt (fun hlt => ?_) (fun hge => ?_)
  · have hd := List.drop_eq_getElem_cons hlt
    rw [hd, fTE] at ha
    simp only [go_sem]
    refine res_index rfl rfl (by omega) (map_at TE.enc hlt) (TE.enc_len _) ?_
    simp only [go_sem, TE.enc_eq]
    by_cases hc : x.types[i].name = p
    · have hc' := eq_true hc
      simp only [go_sem, hc']
      refine res_index rfl rfl (by omega) (map_at TE.enc hlt) (TE.enc_len _) ?_
      simp only [go_sem, List.take_of_length_le (Nat.le_of_eq (TE.enc_len _))]
      refine res_storeAll rfl (by simp [AV.one]) (by simp [TE.enc_len]) rfl ?_
      simp only [go_sem]
      rw [ha, if_pos hc]
      rw [show Tryz.f20.results.toList = [.cell 4 51, .tmp 5] from rfl]; refine ret_fun (by simp only [ares, aresL, ares1_cell, ares1_tmp, go_sem]; rfl) ?_ (by simp [go_sem, agg])
      simp [go_sem, TE.enc_eq, agg]
    · simp only [go_sem, hc, wrap_succ (i := i) (by omega)]
      exact ⟨i + 1, by show _ - (i + 1) < _ - i; omega, ⟨hlt, by rw [ha, if_neg hc]⟩, Weak.les (by repeat (first | exact lesA_nil | refine lesA_cons (AV.le_any _) ?_ | refine lesA_cons (AV.le_refl _) ?_ | refine lesA_cons (AV.le_pure rfl) ?_))⟩
  · simp only [go_sem]
    have : x.types.drop i = [] := List.drop_eq_nil_of_le hge
    rw [ha, this]
    refine res_storeA (hcells_at rfl) rfl rfl (by simp) ?_
    simp only [go_sem]
    rw [show Tryz.f20.results.toList = [.cell 4 51, .tmp 5] from rfl]; refine ret_fun (by simp only [ares, aresL, ares1_cell, ares1_tmp, go_sem]; rfl) ?_ (by simp [go_sem, agg])
    simp [go_sem, fTE, TE.enc_eq, Ty.enc_eq, zTE, zTy, splice, Ty.kind, Ty.module, Ty.name, Ty.args, Ty.fields]

theorem ref_ValueEntry (x : If) (p : Str) (h : x.values.length ≤ 1048576) : Fun Tryz.prog 127 [agg x.enc, .d (.str p)] (.tup [agg ((fVE p x.values).getD zVE).enc, .d (.bool (fVE p x.values).isSome)]) := by
  refine ACalls.of_awp false Tryz.func127 (by decide) rfl ?_
  simp only [show Tryz.f127.ntmps = 28 from rfl, List.length_cons, List.length_nil, Nat.reduceAdd, Nat.reduceSub, List.replicate, List.cons_append, List.nil_append, agg, List.map_cons, List.map_nil]
  simp only [If.enc_eq, List.map_cons, List.map_nil]
  simp only [go_sem]
  refine awp_loop (ι := Nat) (fun i => [.any, .d (.str p), .ptr 0 0, .any, .ptr 1 0, .any, .d (.int .i64 i), .any, .any, .any, .any, .any, .any, .any, .any, .any, .any, .any, .any, .any, .any, .any, .any, .any, .any, .any, .any, .any]) (fun _ => _) (fun i => x.values.length - i) (fun i => i ≤ x.values.length ∧ fVE p x.values = fVE p (x.values.drop i)) 0 ⟨by omega, rfl⟩ (Weak.les (by repeat (first | exact lesA_nil | refine lesA_cons (AV.le_any _) ?_ | refine lesA_cons (AV.le_refl _) ?_ | refine lesA_cons (AV.le_pure rfl) ?_))) ?_
  rintro i ⟨hi, ha⟩
  simp only [go_sem]
  refine cnd_lt (fun hlt => ?_) (fun hge => ?_)
  · have hd := List.drop_eq_getElem_cons hlt
    rw [hd, fVE] at ha
    simp only [go_sem]
    refine res_index rfl rfl (by omega) (map_at VE.enc hlt) (VE.enc_len _) ?_
    simp only [go_sem, VE.enc_eq]
    by_cases hc : x.values[i].name = p
    · have hc' := eq_true hc
      simp only [go_sem, hc']
      refine res_index rfl rfl (by omega) (map_at VE.enc hlt) (VE.enc_len _) ?_
      simp only [go_sem, List.take_of_length_le (Nat.le_of_eq (VE.enc_len _))]
      refine res_storeAll rfl (by simp [AV.one]) (by simp [VE.enc_len]) rfl ?_
      simp only [go_sem]
      rw [ha, if_pos hc]
      rw [show Tryz.f127.results.toList = [.cell 4 101, .tmp 5] from rfl]; refine ret_fun (by simp only [ares, aresL, ares1_cell, ares1_tmp, go_sem]; rfl) ?_ (by simp [go_sem, agg])
      simp [go_sem, VE.enc_eq, agg]
    · simp only [go_sem, hc, wrap_succ (i := i) (by omega)]
      exact ⟨i + 1, by show _ - (i + 1) < _ - i; omega, ⟨hlt, by rw [ha, if_neg hc]⟩, Weak.les (by repeat (first | exact lesA_nil | refine lesA_cons (AV.le_any _) ?_ | refine lesA_cons (AV.le_refl _) ?_ | refine lesA_cons (AV.le_pure rfl) ?_))⟩
  · simp only [go_sem]
    have : x.values.drop i = [] := List.drop_eq_nil_of_le hge
    rw [ha, this]
    refine res_storeA (hcells_at rfl) rfl rfl (by simp) ?_
    simp only [go_sem]
    rw [show Tryz.f127.results.toList = [.cell 4 101, .tmp 5] from rfl]; refine ret_fun (by simp only [ares, aresL, ares1_cell, ares1_tmp, go_sem]; rfl) ?_ (by simp [go_sem, agg])
    simp [go_sem, fVE, VE.enc_eq, Ty.enc_eq, zVE, zTy, splice, Ty.kind, Ty.module, Ty.name, Ty.args, Ty.fields]

theorem ref_AliasEntry (x : If) (p : Str) (h : x.aliases.length ≤ 1048576) : Fun Tryz.prog 128 [agg x.enc, .d (.str p)] (.tup [agg ((fAE p x.aliases).getD zAE).enc, .d (.bool (fAE p x.aliases).isSome)]) := by
  refine ACalls.of_awp false Tryz.func128 (by decide) rfl ?_
  simp only [show Tryz.f128.ntmps = 28 from rfl, List.length_cons, List.length_nil, Nat.reduceAdd, Nat.reduceSub, List.replicate, List.cons_append, List.nil_append, agg, List.map_cons, List.map_nil]
  simp only [If.enc_eq, List.map_cons, List.map_nil]
  simp only [go_sem]
  refine awp_loop (ι := Nat) (fun i => [.any, .d (.str p), .ptr 0 0, .any, .ptr 1 0, .any, .d (.int .i64 i), .any, .any, .any, .any, .any, .any, .any, .any, .any, .any, .any, .any, .any, .any, .any, .any, .any, .any, .any, .any, .any]) (fun _ => _) (fun i => x.aliases.length - i) (fun i => i ≤ x.aliases.length ∧ fAE p x.aliases = fAE p (x.aliases.drop i)) 0 ⟨by omega, rfl⟩ (Weak.les (by repeat (first | exact lesA_nil | refine lesA_cons (AV.le_any _) ?_ | refine lesA_cons (AV.le_refl _) ?_ | refine lesA_cons (AV.le_pure rfl) ?_))) ?_
  rintro i ⟨hi, ha⟩
  simp only [go_sem]
  refine cnd_lt (fun hlt => ?_) (fun hge => ?_)
  · have hd := List.drop_eq_getElem_cons hlt
    rw [hd, fAE] at ha
    simp only [go_sem]
    refine res_index rfl rfl (by omega) (map_at AE.enc hlt) (AE.enc_len _) ?_
    simp only [go_sem, AE.enc_eq]
    by_cases hc : x.aliases[i].name = p
    · have hc' := eq_true hc
      simp only [go_sem, hc']
      refine res_index rfl rfl (by omega) (map_at AE.enc hlt) (AE.enc_len _) ?_
      simp only [go_sem, List.take_of_length_le (Nat.le_of_eq (AE.enc_len _))]
      refine res_storeAll rfl (by simp [AV.one]) (by simp [AE.enc_len]) rfl ?_
      simp only [go_sem]
      rw [ha, if_pos hc]
      rw [show Tryz.f128.results.toList = [.cell 4 106, .tmp 5] from rfl]; refine ret_fun (by simp only [ares, aresL, ares1_cell, ares1_tmp, go_sem]; rfl) ?_ (by simp [go_sem, agg])
      simp [go_sem, AE.enc_eq, agg]
    · simp only [go_sem, hc, wrap_succ (i := i) (by omega)]
      exact ⟨i + 1, by show _ - (i + 1) < _ - i; omega, ⟨hlt, by rw [ha, if_neg hc]⟩, Weak.les (by repeat (first | exact lesA_nil | refine lesA_cons (AV.le_any _) ?_ | refine lesA_cons (AV.le_refl _) ?_ | refine lesA_cons (AV.le_pure rfl) ?_))⟩
  · simp only [go_sem]
    have : x.aliases.drop i = [] := List.drop_eq_nil_of_le hge
    rw [ha, this]
    refine res_storeA (hcells_at rfl) rfl rfl (by simp) ?_
    simp only [go_sem]
    rw [show Tryz.f128.results.toList = [.cell 4 106, .tmp 5] from rfl]; refine ret_fun (by simp only [ares, aresL, ares1_cell, ares1_tmp, go_sem]; rfl) ?_ (by simp [go_sem, agg])
    simp [go_sem, fAE, AE.enc_eq, Ty.enc_eq, zAE, zTy, splice, Ty.kind, Ty.module, Ty.name, Ty.args, Ty.fields]

/-! ### where a name leads -/
/-- the sizes of what we speak of -/
structure Env.good (env : Env) : Prop where
  len : env.length ≤ 1048576
  types : ∀ x ∈ env, x.types.length ≤ 1048576
  values : ∀ x ∈ env, x.values.length ≤ 1048576
  aliases : ∀ x ∈ env, x.aliases.length ≤ 1048576
  depr : ∀ x ∈ env, x.depr.length ≤ 1048576
  tpars : ∀ x ∈ env, ∀ y ∈ x.types, y.params.length ≤ 1048576
  vpars : ∀ x ∈ env, ∀ y ∈ x.values, y.params.length ≤ 1048576
  tlow : ∀ x ∈ env, ∀ y ∈ x.types, y.lower.good ∧ y.upper.good
  tbnd : ∀ x ∈ env, ∀ y ∈ x.types, ∀ p ∈ y.params, p.bound.good
  vtyp : ∀ x ∈ env, ∀ y ∈ x.values, y.type.good
  vbnd : ∀ x ∈ env, ∀ y ∈ x.values, ∀ p ∈ y.params, p.bound.good

theorem fIf_mem {p : Str} {x : If} : ∀ {l : List If}, fIf p l = some x → x ∈ l ∧ x.path = p
  | [], h => by simp [fIf] at h
  | y :: l, h => by
    unfold fIf at h
    split at h
    · simp at h; subst h; rename_i hp; exact ⟨by simp, hp⟩
    · have := fIf_mem h; exact ⟨by simp [this.1], this.2⟩
theorem fTE_mem {p : Str} {x : TE} : ∀ {l : List TE}, fTE p l = some x → x ∈ l ∧ x.name = p
  | [], h => by simp [fTE] at h
  | y :: l, h => by
    unfold fTE at h
    split at h
    · simp at h; subst h; rename_i hp; exact ⟨by simp, hp⟩
    · have := fTE_mem h; exact ⟨by simp [this.1], this.2⟩

def resolveN : Nat → Env → Str → Str → Str × Str × Int
  | 0, _, _, _ => ([], [], 14)
  | n + 1, env, m, s => match fIf m env with
    | none => ([], [], 6)
    | some i => if (fTE s i.types).isSome || (fVE s i.values).isSome then (m, s, 0) else
      match fAE s i.aliases with
      | none => ([], [], 6)
      | some a => resolveN n env a.module a.target
def resolve (env : Env) (m s : Str) : Str × Str × Int := resolveN 65 env m s

theorem ref_Resolve (env : Env) (m s : Str) (hg : env.good) : Fun Tryz.prog 79 [.d (.sl false (env.map If.enc)), .d (.str m), .d (.str s)] (.tup [.d (.str (resolve env m s).1), .d (.str (resolve env m s).2.1), .d (.int .i64 (resolve env m s).2.2)]) := by
  refine ACalls.of_awp false Tryz.func79 (by decide) rfl ?_
  simp only [show Tryz.f79.ntmps = 60 from rfl, List.length_cons, List.length_nil, Nat.reduceAdd, Nat.reduceSub, List.replicate, List.cons_append, List.nil_append, agg, List.map_cons, List.map_nil]
  simp only [go_sem]
  refine awp_loop (ι := Nat × Str × Str) (fun x => [.d (.sl false (env.map If.enc)), .d (.str x.2.1), .d (.str x.2.2), .any, .any, .any, .any, .any, .any, .d (.int .i64 x.1), .any, .any, .any, .any, .any, .any, .any, .any, .any, .any, .any, .any, .any, .any, .any, .any, .any, .any, .any, .any, .any, .any, .any, .any, .any, .any, .any, .any, .any, .any, .any, .any, .any, .any, .any, .any, .any, .any, .any, .any, .any, .any, .any, .any, .any, .any, .any, .any, .any, .any]) (fun _ => []) (fun x => 65 - x.1)
    (fun x => x.1 ≤ 65 ∧ resolve env m s = resolveN (65 - x.1) env x.2.1 x.2.2) (0, m, s) ⟨by omega, rfl⟩ (Weak.les (by repeat (first | exact lesA_nil | refine lesA_cons (AV.le_any _) ?_ | refine lesA_cons (AV.le_refl _) ?_ | refine lesA_cons (AV.le_pure rfl) ?_))) ?_
  rintro ⟨i, m', s'⟩ ⟨hi, ha⟩
  simp only at hi ha
  simp only [go_sem]
  by_cases h64 : (i : Int) ≤ 64
  · rw [show 65 - i = (64 - i) + 1 by omega, resolveN] at ha
    simp only [go_sem, h64]
    refine (ref_Find env m' hg.len).call (by simp only [go_sem]) (by simp [go_sem, agg]) ?_
    cases hf : fIf m' env with
    | none =>
      rw [hf] at ha
      simp only [go_sem, agg, Option.isSome_none, Option.getD_none, If.enc_eq]
      refine res_storeAll rfl rfl rfl rfl ?_
      simp only [go_sem]
      rw [ha]; exact ret_fun rfl (by simp [go_sem]) rfl
    | some x =>
      obtain ⟨hx, _⟩ := fIf_mem hf
      rw [hf] at ha
      simp only [go_sem, agg, Option.isSome_some, Option.getD_some]
      refine res_storeAll rfl (by simp [AV.one]) (by simp [If.enc_len]) rfl ?_
      simp only [go_sem]
      refine (ref_TypeEntry x s' (hg.types x hx)).call (by simp only [go_sem, agg]) (by simp [go_sem, agg]) ?_
      simp only [go_sem, agg]
      refine res_storeAll rfl (by simp [AV.one]) (by simp [TE.enc_len]) rfl ?_
      simp only [go_sem]
      refine (ref_ValueEntry x s' (hg.values x hx)).call (by simp only [go_sem, agg]) (by simp [go_sem, agg]) ?_
      simp only [go_sem, agg]
      refine res_storeAll rfl (by simp [AV.one]) (by simp [VE.enc_len]) rfl ?_
      simp only [go_sem]
      refine (ref_AliasEntry x s' (hg.aliases x hx)).call (by simp only [go_sem, agg]) (by simp [go_sem, agg]) ?_
      simp only [go_sem, agg]
      refine res_storeAll rfl (by simp [AV.one]) (by simp [AE.enc_len]) rfl ?_
      simp only [go_sem]
      cases ht : (fTE s' x.types).isSome
      · cases hv : (fVE s' x.values).isSome
        · simp only [ht, hv, Bool.or_false, Bool.false_eq_true, if_false] at ha
          simp only [go_sem]
          cases hf2 : fAE s' x.aliases with
          | none =>
            rw [hf2] at ha
            simp only [go_sem, Option.isSome_none]
            rw [ha]; exact ret_fun rfl (by simp [go_sem]) rfl
          | some y =>
            rw [hf2] at ha
            simp only [go_sem, Option.isSome_some, Option.getD_some, AE.enc_eq]
            refine awp_draw0 [false, false, false, false, false, false] mixed (by kernel_rfl) ?_
            simp only [go_sem, wrap_succ (i := i) (by omega)]
            exact ⟨(i + 1, y.module, y.target), by show 65 - (i + 1) < 65 - i; omega, ⟨by show i + 1 ≤ 65; omega, by show _ = resolveN (65 - (i + 1)) env y.module y.target; rw [ha, show 65 - (i + 1) = 64 - i by omega]⟩, Weak.ld 0 (by repeat (first | exact lesA_nil | refine lesA_cons (AV.le_any _) ?_ | refine lesA_cons (AV.le_refl _) ?_ | refine lesA_cons (AV.le_pure rfl) ?_)) (Nat.le_refl _) (by simp) (by simp [go_sem]) (by simp)⟩
        · simp only [go_sem]
          rw [ha]; exact ret_fun rfl (by simp [go_sem, ht, hv]) rfl
      · simp only [go_sem]
        rw [ha]; exact ret_fun rfl (by simp [go_sem, ht]) rfl
  · have : 65 - i = 0 := by omega
    rw [this, resolveN] at ha
    simp only [go_sem, h64]
    rw [ha]; exact ret_fun rfl (by simp [go_sem]) rfl

def tyAt (env : Env) (m s : Str) : TE × Str × Int :=
  if (resolve env m s).2.2 ≠ 0 then (zTE, [], (resolve env m s).2.2) else
  match fTE (resolve env m s).2.1 (((fIf (resolve env m s).1 env).getD zIf).types) with
  | none => (zTE, [], 6)
  | some x => (x, (resolve env m s).1, 0)

theorem ref_Type7 (env : Env) (m s : Str) (hg : env.good) : Fun Tryz.prog 40 [.d (.sl false (env.map If.enc)), .d (.str m), .d (.str s)] (.tup [agg (tyAt env m s).1.enc, .d (.str (tyAt env m s).2.1), .d (.int .i64 (tyAt env m s).2.2)]) := by
  refine ACalls.of_awp false Tryz.func40 (by decide) rfl ?_
  simp only [show Tryz.f40.ntmps = 45 from rfl, List.length_cons, List.length_nil, Nat.reduceAdd, Nat.reduceSub, List.replicate, List.cons_append, List.nil_append, agg, List.map_cons, List.map_nil]
  simp only [go_sem]
  refine (ref_Resolve env m s hg).call (by simp only [go_sem]) (by simp [go_sem]) ?_
  simp only [go_sem]
  by_cases h0 : (resolve env m s).2.2 = 0
  · have h0' := eq_true h0
    simp only [go_sem, h0']
    refine (ref_Find env (resolve env m s).1 hg.len).call (by simp only [go_sem]) (by simp [go_sem, agg]) ?_
    have hl : ((fIf (resolve env m s).1 env).getD zIf).types.length ≤ 1048576 := by
      cases hf : fIf (resolve env m s).1 env with
      | none => simp [zIf]
      | some x => exact hg.types x (fIf_mem hf).1
    simp only [go_sem, agg]
    refine res_storeAll rfl (by simp [AV.one]) (by simp [If.enc_len]) rfl ?_
    simp only [go_sem]
    refine (ref_TypeEntry _ (resolve env m s).2.1 hl).call (by simp only [go_sem, agg]) (by simp [go_sem, agg]) ?_
    simp only [go_sem, agg]
    refine res_storeAll rfl (by simp [AV.one]) (by simp [TE.enc_len]) rfl ?_
    cases hf2 : fTE (resolve env m s).2.1 (((fIf (resolve env m s).1 env).getD zIf).types) with
    | none =>
      have hv : tyAt env m s = (zTE, [], 6) := by simp only [tyAt, h0, hf2]; simp
      rw [hv]
      simp only [go_sem, Option.isSome_none]
      refine res_storeAll rfl rfl rfl (by simp [TE.enc_len]) ?_
      simp only [go_sem]
      rw [show Tryz.f40.results.toList = [.cell 6 51, .tmp 7, .tmp 8] from rfl]; refine ret_fun (by simp only [ares, aresL, ares1_cell, ares1_tmp, go_sem]; rfl) ?_ (by simp [go_sem, agg])
      simp [go_sem, agg, TE.enc_eq, zTE, zTy, Ty.enc_eq, Ty.kind, Ty.module, Ty.name, Ty.args, Ty.fields]
    | some x =>
      have hv : tyAt env m s = (x, (resolve env m s).1, 0) := by simp only [tyAt, h0, hf2]; simp
      rw [hv]
      simp only [go_sem, Option.isSome_some, Option.getD_some]
      refine res_storeAll rfl (by simp [AV.one]) (by simp [TE.enc_len]) rfl ?_
      simp only [go_sem]
      rw [show Tryz.f40.results.toList = [.cell 6 51, .tmp 7, .tmp 8] from rfl]; refine ret_fun (by simp only [ares, aresL, ares1_cell, ares1_tmp, go_sem]; rfl) ?_ (by simp [go_sem, agg])
      simp [go_sem, agg]
  · have hv : tyAt env m s = (zTE, [], (resolve env m s).2.2) := if_pos h0
    rw [hv]
    simp only [go_sem, h0]
    refine res_storeAll rfl rfl rfl rfl ?_
    simp only [go_sem]
    rw [show Tryz.f40.results.toList = [.cell 6 51, .tmp 7, .tmp 8] from rfl]; refine ret_fun (by simp only [ares, aresL, ares1_cell, ares1_tmp, go_sem]; rfl) ?_ (by simp [go_sem, agg])
    simp [go_sem, agg, TE.enc_eq, zTE, zTy, Ty.enc_eq, Ty.kind, Ty.module, Ty.name, Ty.args, Ty.fields]

end Go.Proofs.YthhmioodienlmaaGreatDoor

/- Contracts of the reference's functions on environments (chapter 7): the types of an interface, sizes; types in an environment (chapter 8). -/
namespace Go.Proofs.YthhmioodienlmaaGreatDoor
open Go
set_option maxRecDepth 20000
set_option pp.deepTerms false
set_option pp.deepTerms.threshold 6
variable {P : Program} {H : List HO}

theorem ref_Names (l : List Pa) (h : l.length ≤ 1048576) : Fun Tryz.prog 41 [.d (.sl false (l.map Pa.enc))] (.d (.sl false ((l.map Pa.name).map sE))) := by
  refine ACalls.of_awp false Tryz.func41 (by decide) rfl ?_
  simp only [show Tryz.f41.ntmps = 21 from rfl, List.length_cons, List.length_nil, Nat.reduceAdd, Nat.reduceSub, List.replicate, List.cons_append, List.nil_append, agg, List.map_cons, List.map_nil]
  simp only [go_sem]
  refine awp_loop (ι := Nat) (fun i => [.d (.sl false (l.map Pa.enc)), .any, .any, .vec 0 i ((l.take i).map fun p => sE p.name), .d (.int .i64 i), .any, .any, .any, .any, .any, .any, .any, .any, .any, .any, .any, .any, .any, .any, .any, .any]) (fun i => [.tip i 1]) (fun i => l.length - i) (fun i => i ≤ l.length) 0 (by omega)
    ((Weak.mkvec (t := 3) 1 rfl (by simp)).trans (Weak.les (by repeat (first | exact lesA_nil | refine lesA_cons (AV.le_any _) ?_ | refine lesA_cons (AV.le_refl _) ?_ | refine lesA_cons (AV.le_pure rfl) ?_)))) ?_
  intro i hi
  simp only [go_sem]
  refine cnd_lt (fun hlt => ?_) (fun hge => ?_)
  · simp only [go_sem]
    refine res_index rfl rfl (by omega) (map_at Pa.enc hlt) (Pa.enc_len _) ?_
    simp only [go_sem, Pa.enc_eq]
    rw [oBuildSlice_1d rfl rfl]
    simp only [go_sem]
    refine aAppend_vec rfl (by simp) (by decide) rfl (by simp [lim]; omega) ?_
    simp only [go_sem, wrap_succ (i := i) (by omega)]
    refine ⟨i + 1, by show _ - (i + 1) < _ - i; omega, hlt, ?_⟩
    simp only [List.take_succ_eq_append_getElem hlt, List.map_append, List.map_cons, List.map_nil]
    exact Weak.les (by repeat (first | exact lesA_nil | refine lesA_cons (AV.le_any _) ?_ | refine lesA_cons (AV.le_refl _) ?_ | refine lesA_cons (AV.le_pure rfl) ?_))
  · simp only [go_sem]
    have : i = l.length := by omega
    subst this
    refine ret_fun rfl ?_ rfl
    simp only [go_sem, List.take_length]
    rw [normE_map (fun p => rfl)]
    simp [List.map_map, Function.comp_def]

def teTypes (x : TE) : List Ty := x.lower :: x.upper :: x.params.map Pa.bound
def veTypes (x : VE) : List Ty := x.type :: x.params.map Pa.bound
def ifTypes (i : If) : List Ty := i.types.flatMap teTypes ++ i.values.flatMap veTypes

theorem oBuildSlice_2 {n b el : Nat} {ag isM : Bool} {fs : List (Nat × Nat × Bool)} {al : Option Nat} {ky : TypeId} {ki : Option IntKind} {st : Bool} {z : List D} {e : TInf} {ds ds' : List D} (hz : e.zero.length = e.size) (hl : ds.length = e.size) (hl' : ds'.length = e.size) (hs : e.size + e.size ≤ 16777216) :
    oBuildSlice false (some ⟨n, b, ag, fs, el, al, true, isM, ky, ki, st, z⟩) (some e) 2 [(0, .agg (ds.map .d)), (1, .agg (ds'.map .d))] H = some (.d (.sl true [ds, ds']), H) := by
  have hd : ∀ l : List D, toDs (l.map AV.d) = some l := fun l => by
    induction l with
    | nil => rfl
    | cons d l ih => simp [toDs, AV.toD, ih]
  have hone : ∀ l : List D, (l.map AV.d).all AV.one = true := fun l => by simp [AV.one]
  have hsp : splice (splice (zerosA e 2) (0 * e.size) (ds.map .d)) (1 * e.size) (ds'.map .d) = (ds ++ ds').map AV.d := by
    have hzl : (zerosA e 2).length = e.size + e.size := by simp [zerosA, hz]
    simp only [splice, Nat.zero_mul, List.take_zero, List.nil_append, Nat.zero_add, List.length_map, hl, hl', Nat.one_mul]
    rw [List.take_left' (by simp [hl]), List.map_append]
    rw [List.drop_of_length_le (by simp [hl, hzl]), List.append_nil]
  have hf : fillA (fun i => some (i * e.size, e.size)) (zerosA e 2) [(0, .agg (ds.map .d)), (1, .agg (ds'.map .d))] = some ((ds ++ ds').map AV.d) := by
    have hzl : (zerosA e 2).length = e.size + e.size := by simp [zerosA, hz]
    simp only [fillA, AV.cells?, hone, if_true]
    rw [if_pos ⟨by simp [hl], by omega⟩, if_pos ⟨by simp [hl'], by simp [splice, hl, hzl]⟩, hsp]
  have hc : chunk e.size 2 (ds ++ ds') = [ds, ds'] := by
    simp only [chunk]
    rw [List.take_left' hl, List.drop_left' hl, List.take_of_length_le (by omega)]
  have hcond : (True ∧ 2 * e.size ≤ 16777216 ∧ 2 ≤ lim) := ⟨trivial, by omega, by decide⟩
  simp only [oBuildSlice, hf]
  rw [if_pos hcond]
  simp only [Bool.false_eq_true, false_and, if_false, hd, hc]

theorem ref_Types7 (x : If) (h1 : x.types.length ≤ 1048576) (h2 : x.values.length ≤ 1048576) (h3 : ∀ y ∈ x.types, y.params.length ≤ 1048576) (h4 : ∀ y ∈ x.values, y.params.length ≤ 1048576) (h5 : (ifTypes x).length ≤ 2147483648) :
    Fun Tryz.prog 25 [agg x.enc] (.d (.sl false ((ifTypes x).map Ty.enc))) := by
  refine ACalls.of_awp false Tryz.func25 (by decide) rfl ?_
  simp only [show Tryz.f25.ntmps = 96 from rfl, List.length_cons, List.length_nil, Nat.reduceAdd, Nat.reduceSub, List.replicate, List.cons_append, List.nil_append, agg, List.map_cons, List.map_nil]
  simp only [If.enc_eq, List.map_cons, List.map_nil]
  simp only [go_sem]
  have hsub1 : ∀ i, ((x.types.take i).flatMap teTypes).length ≤ 2147483648 := fun i => by
    have : x.types = x.types.take i ++ x.types.drop i := (List.take_append_drop i _).symm
    have h := h5
    unfold ifTypes at h
    rw [this, List.flatMap_append, List.length_append, List.length_append] at h
    omega
  have hall : ifTypes x = x.types.flatMap teTypes ++ x.values.flatMap veTypes := rfl
  have hsub2 : ∀ i, (x.types.flatMap teTypes ++ (x.values.take i).flatMap veTypes).length ≤ 2147483648 := fun i => by
    have : x.values = x.values.take i ++ x.values.drop i := (List.take_append_drop i _).symm
    have h := h5
    unfold ifTypes at h
    rw [this, List.flatMap_append, List.length_append, List.length_append] at h
    rw [List.length_append]
    omega
  refine awp_loop (ι := Nat) (fun i => [.any, .ptr 0 0, .any, .vec 1 ((x.types.take i).flatMap teTypes).length (((x.types.take i).flatMap teTypes).map Ty.enc), .d (.int .i64 i), .any, .any, .any, .any, .any, .any, .any, .any, .any, .any, .any, .any, .any, .any, .any, .any, .any, .any, .any, .any, .any, .any, .any, .any, .any, .any, .any, .any, .any, .any, .any, .any, .any, .any, .any, .any, .any, .any, .any, .any, .any, .any, .any, .any, .any, .any, .any, .any, .any, .any, .any, .any, .any, .any, .any, .any, .any, .any, .any, .any, .any, .any, .any, .any, .any, .any, .any, .any, .any, .any, .any, .any, .any, .any, .any, .any, .any, .any, .any, .any, .any, .any, .any, .any, .any, .any, .any, .any, .any, .any, .any])
    (fun i => [.cells [.d (.str x.path), .d (.sl false (x.types.map TE.enc)), .d (.sl false (x.values.map VE.enc)), .d (.sl false (x.aliases.map AE.enc)), .d (.sl false (x.depr.map DE.enc))], .tip ((x.types.take i).flatMap teTypes).length 5])
    (fun i => x.types.length - i) (fun i => i ≤ x.types.length) 0 (by omega) ((Weak.mkvec (t := 3) 5 rfl (by simp)).trans (Weak.les (by repeat (first | exact lesA_nil | refine lesA_cons (AV.le_any _) ?_ | refine lesA_cons (AV.le_refl _) ?_ | refine lesA_cons (AV.le_pure rfl) ?_)))) ?_
  intro i hi
  simp only [go_sem]
  refine cnd_lt (fun hlt => ?_) (fun hge => ?_)
  · have hstep : (x.types.take (i + 1)).flatMap teTypes = (x.types.take i).flatMap teTypes ++ teTypes x.types[i] := by rw [List.take_succ_eq_append_getElem hlt, List.flatMap_append]; simp
    have hb := hsub1 (i + 1)
    have hpl := h3 _ (List.getElem_mem hlt)
    rw [hstep, List.length_append] at hb
    generalize hL : (x.types.take i).flatMap teTypes = L at *
    simp only [teTypes, List.length_cons, List.length_map] at hb
    simp only [go_sem]
    refine awp_draw0 [false, false, false, false, false, false, false, false, false, false, false, false, false, false, true, false] mixed (by kernel_rfl) ?_
    simp only [go_sem]
    refine res_index rfl rfl (by omega) (map_at TE.enc hlt) (TE.enc_len _) ?_
    simp only [go_sem, TE.enc_eq]
    refine res_index rfl rfl (by omega) (map_at TE.enc hlt) (TE.enc_len _) ?_
    simp only [go_sem, TE.enc_eq]
    rw [oBuildSlice_2 rfl (Ty.enc_len _) (Ty.enc_len _) (by decide)]
    simp only [go_sem]
    refine aAppend_vec rfl (by simp [Ty.enc_len]) (by decide) rfl (by simp [lim]; omega) ?_
    simp only [go_sem]
    refine awp_loop (ι := Nat) (fun p => [.any, .ptr 0 0, .any, .vec 1 (L.length + (2 + p)) (L.map Ty.enc ++ ([x.types[i].lower.enc, x.types[i].upper.enc] ++ (x.types[i].params.take p).map (fun q => q.bound.enc))), .d (.int .i64 i), .d (.int .i64 p), .any, .any, .any, .any, .any, .any, .any, .any, .any, .any, .any, .any, .any, .any, .any, .any, .any, .any, .any, .any, .any, .any, .any, .any, .any, .any, .any, .any, .any, .any, .any, .any, .any, .any, .any, .any, .any, .any, .any, .any, .any, .any, .any, .any, .any, .any, .any, .any, .any, .any, .any, .any, .any, .any, .any, .any, .any, .any, .any, .any, .any, .any, .any, .any, .any, .any, .any, .any, .any, .any, .any, .any, .any, .any, .any, .any, .any, .any, .any, .any, .any, .any, .any, .any, .any, .any, .any, .any, .any, .any])
      (fun p => [.cells [.d (.str x.path), .d (.sl false (x.types.map TE.enc)), .d (.sl false (x.values.map VE.enc)), .d (.sl false (x.aliases.map AE.enc)), .d (.sl false (x.depr.map DE.enc))], .tip (L.length + (2 + p)) 5])
      (fun p => x.types[i].params.length - p) (fun p => p ≤ x.types[i].params.length) 0 (by omega) (by simp only [List.take_zero, List.map_nil, List.append_nil]; exact Weak.les (by repeat (first | exact lesA_nil | refine lesA_cons (AV.le_any _) ?_ | refine lesA_cons (AV.le_refl _) ?_ | refine lesA_cons (AV.le_pure rfl) ?_))) ?_
    intro p hp
    simp only [go_sem]
    refine res_index rfl rfl (by omega) (map_at TE.enc hlt) (TE.enc_len _) ?_
    simp only [go_sem, TE.enc_eq]
    refine cnd_lt (fun hlp => ?_) (fun hgp => ?_)
    · simp only [go_sem]
      refine res_index rfl rfl (by omega) (map_at TE.enc hlt) (TE.enc_len _) ?_
      simp only [go_sem, TE.enc_eq]
      refine res_index rfl rfl (by omega) (map_at Pa.enc hlp) (Pa.enc_len _) ?_
      simp only [go_sem, Pa.enc_eq]
      rw [oBuildSlice_1 rfl (Ty.enc_len _) (by decide)]
      simp only [go_sem]
      refine aAppend_vec rfl (by simp [Ty.enc_len]) (by decide) rfl (by simp [lim]; omega) ?_
      simp only [go_sem, wrap_succ (i := p) (by omega)]
      refine ⟨p + 1, by show _ - (p + 1) < _ - p; omega, hlp, ?_⟩
      simp only [List.take_succ_eq_append_getElem hlp, List.map_append, List.map_cons, List.map_nil, List.append_assoc, List.cons_append, List.nil_append, ← Nat.add_assoc]
      exact Weak.les (by repeat (first | exact lesA_nil | refine lesA_cons (AV.le_any _) ?_ | refine lesA_cons (AV.le_refl _) ?_ | refine lesA_cons (AV.le_pure rfl) ?_))
    · have hpe : p = x.types[i].params.length := by omega
      subst hpe
      simp only [go_sem, wrap_succ (i := i) (by omega)]
      refine ⟨i + 1, by show _ - (i + 1) < _ - i; omega, hlt, ?_⟩
      have e1 : L.map Ty.enc ++ ([x.types[i].lower.enc, x.types[i].upper.enc] ++ (x.types[i].params.take x.types[i].params.length).map (fun q => q.bound.enc)) = (L ++ teTypes x.types[i]).map Ty.enc := by
        simp [teTypes, Function.comp_def]
      have e2 : L.length + (2 + x.types[i].params.length) = (L ++ teTypes x.types[i]).length := by simp [teTypes]; omega
      simp only [List.cons_append, List.nil_append] at e1
      rw [hstep, e1, e2]
      exact Weak.les (by repeat (first | exact lesA_nil | refine lesA_cons (AV.le_any _) ?_ | refine lesA_cons (AV.le_refl _) ?_ | refine lesA_cons (AV.le_pure rfl) ?_))
  · have hie : i = x.types.length := by omega
    subst hie
    rw [List.take_length]
    simp only [go_sem]
    generalize hB : x.types.flatMap teTypes = B at *
    obtain ⟨VL, hVL⟩ : ∃ f : Nat → List Ty, ∀ i, f i = B ++ (x.values.take i).flatMap veTypes := ⟨_, fun _ => rfl⟩
    have hV0 : VL 0 = B := by rw [hVL]; simp
    have hsub3 : ∀ i, (VL i).length ≤ 2147483648 := fun i => by rw [hVL]; exact hsub2 i
    refine awp_loop (ι := Nat) (fun i => [.any, .ptr 0 0, .any, .vec 1 (VL i).length ((VL i).map Ty.enc), .any, .any, .d (.int .i64 i), .any, .any, .any, .any, .any, .any, .any, .any, .any, .any, .any, .any, .any, .any, .any, .any, .any, .any, .any, .any, .any, .any, .any, .any, .any, .any, .any, .any, .any, .any, .any, .any, .any, .any, .any, .any, .any, .any, .any, .any, .any, .any, .any, .any, .any, .any, .any, .any, .any, .any, .any, .any, .any, .any, .any, .any, .any, .any, .any, .any, .any, .any, .any, .any, .any, .any, .any, .any, .any, .any, .any, .any, .any, .any, .any, .any, .any, .any, .any, .any, .any, .any, .any, .any, .any, .any, .any, .any, .any])
      (fun i => [.cells [.d (.str x.path), .d (.sl false (x.types.map TE.enc)), .d (.sl false (x.values.map VE.enc)), .d (.sl false (x.aliases.map AE.enc)), .d (.sl false (x.depr.map DE.enc))], .tip (VL i).length 5])
      (fun i => x.values.length - i) (fun i => i ≤ x.values.length) 0 (by omega) (by simp only [hV0]; exact Weak.les (by repeat (first | exact lesA_nil | refine lesA_cons (AV.le_any _) ?_ | refine lesA_cons (AV.le_refl _) ?_ | refine lesA_cons (AV.le_pure rfl) ?_))) ?_
    intro i hi
    simp only [go_sem]
    refine cnd_lt (fun hlt => ?_) (fun hge => ?_)
    · have hstep : VL (i + 1) = VL i ++ veTypes x.values[i] := by rw [hVL, hVL, List.take_succ_eq_append_getElem hlt, List.flatMap_append, List.append_assoc]; simp
      have hb := hsub3 (i + 1)
      have hpl := h4 _ (List.getElem_mem hlt)
      rw [hstep, List.length_append] at hb
      generalize hL : VL i = L at *
      simp only [veTypes, List.length_cons, List.length_map] at hb
      simp only [go_sem]
      refine res_index rfl rfl (by omega) (map_at VE.enc hlt) (VE.enc_len _) ?_
      simp only [go_sem, VE.enc_eq]
      rw [oBuildSlice_1 rfl (Ty.enc_len _) (by decide)]
      simp only [go_sem]
      refine aAppend_vec rfl (by simp [Ty.enc_len]) (by decide) rfl (by simp [lim]; omega) ?_
      simp only [go_sem]
      refine awp_loop (ι := Nat) (fun p => [.any, .ptr 0 0, .any, .vec 1 (L.length + (1 + p)) (L.map Ty.enc ++ ([x.values[i].type.enc] ++ (x.values[i].params.take p).map (fun q => q.bound.enc))), .any, .any, .d (.int .i64 i), .d (.int .i64 p), .any, .any, .any, .any, .any, .any, .any, .any, .any, .any, .any, .any, .any, .any, .any, .any, .any, .any, .any, .any, .any, .any, .any, .any, .any, .any, .any, .any, .any, .any, .any, .any, .any, .any, .any, .any, .any, .any, .any, .any, .any, .any, .any, .any, .any, .any, .any, .any, .any, .any, .any, .any, .any, .any, .any, .any, .any, .any, .any, .any, .any, .any, .any, .any, .any, .any, .any, .any, .any, .any, .any, .any, .any, .any, .any, .any, .any, .any, .any, .any, .any, .any, .any, .any, .any, .any, .any, .any])
        (fun p => [.cells [.d (.str x.path), .d (.sl false (x.types.map TE.enc)), .d (.sl false (x.values.map VE.enc)), .d (.sl false (x.aliases.map AE.enc)), .d (.sl false (x.depr.map DE.enc))], .tip (L.length + (1 + p)) 5])
        (fun p => x.values[i].params.length - p) (fun p => p ≤ x.values[i].params.length) 0 (by omega) (by simp only [List.take_zero, List.map_nil, List.append_nil]; exact Weak.les (by repeat (first | exact lesA_nil | refine lesA_cons (AV.le_any _) ?_ | refine lesA_cons (AV.le_refl _) ?_ | refine lesA_cons (AV.le_pure rfl) ?_))) ?_
      intro p hp
      simp only [go_sem]
      refine res_index rfl rfl (by omega) (map_at VE.enc hlt) (VE.enc_len _) ?_
      simp only [go_sem, VE.enc_eq]
      refine cnd_lt (fun hlp => ?_) (fun hgp => ?_)
      · simp only [go_sem]
        refine res_index rfl rfl (by omega) (map_at VE.enc hlt) (VE.enc_len _) ?_
        simp only [go_sem, VE.enc_eq]
        refine res_index rfl rfl (by omega) (map_at Pa.enc hlp) (Pa.enc_len _) ?_
        simp only [go_sem, Pa.enc_eq]
        rw [oBuildSlice_1 rfl (Ty.enc_len _) (by decide)]
        simp only [go_sem]
        refine aAppend_vec rfl (by simp [Ty.enc_len]) (by decide) rfl (by simp [lim]; omega) ?_
        simp only [go_sem, wrap_succ (i := p) (by omega)]
        refine ⟨p + 1, by show _ - (p + 1) < _ - p; omega, hlp, ?_⟩
        simp only [List.take_succ_eq_append_getElem hlp, List.map_append, List.map_cons, List.map_nil, List.append_assoc, List.cons_append, List.nil_append, ← Nat.add_assoc]
        exact Weak.les (by repeat (first | exact lesA_nil | refine lesA_cons (AV.le_any _) ?_ | refine lesA_cons (AV.le_refl _) ?_ | refine lesA_cons (AV.le_pure rfl) ?_))
      · have hpe : p = x.values[i].params.length := by omega
        subst hpe
        simp only [go_sem, wrap_succ (i := i) (by omega)]
        refine ⟨i + 1, by show _ - (i + 1) < _ - i; omega, hlt, ?_⟩
        have e1 : L.map Ty.enc ++ ([x.values[i].type.enc] ++ (x.values[i].params.take x.values[i].params.length).map (fun q => q.bound.enc)) = (L ++ veTypes x.values[i]).map Ty.enc := by
          simp [veTypes, Function.comp_def]
        have e2 : L.length + (1 + x.values[i].params.length) = (L ++ veTypes x.values[i]).length := by simp [veTypes]; omega
        simp only [List.cons_append, List.nil_append] at e1
        rw [hstep, e1, e2]
        exact Weak.les (by repeat (first | exact lesA_nil | refine lesA_cons (AV.le_any _) ?_ | refine lesA_cons (AV.le_refl _) ?_ | refine lesA_cons (AV.le_pure rfl) ?_))
    · have hie : i = x.values.length := by omega
      subst hie
      have hfin : B ++ x.values.flatMap veTypes = VL x.values.length := by rw [hVL, List.take_length]
      rw [hall, hfin]
      simp only [go_sem]
      refine ret_fun rfl ?_ rfl
      simp only [go_sem]

/-- the number of nodes of an environment -/
def ifSize (x : If) : Nat := ((ifTypes x).map Ty.size).sum + x.aliases.length + x.depr.length
def envSize (env : Env) : Nat := env.length + (env.map ifSize).sum

theorem ref_Size (env : Env) (hg : env.good) (h : envSize env ≤ 2147483648) : Fun Tryz.prog 8 [.d (.sl false (env.map If.enc))] (.d (.int .i64 (envSize env))) := by
  have hlen := hg.len
  have htot : ∀ i (hlt : i < env.length), ifSize env[i] ≤ 2147483648 := fun i hlt => by
    have := sum_mem (List.mem_map_of_mem (f := ifSize) (List.getElem_mem hlt))
    unfold envSize at h; omega
  have hgd : ∀ x ∈ env, ∀ t ∈ ifTypes x, t.good := fun x hx t ht => by
    unfold ifTypes at ht
    simp only [List.mem_append, List.mem_flatMap] at ht
    rcases ht with ⟨y, hy, ht⟩ | ⟨y, hy, ht⟩
    · simp only [teTypes, List.mem_cons, List.mem_map] at ht
      rcases ht with rfl | rfl | ⟨p, hp, rfl⟩
      · exact (hg.tlow x hx y hy).1
      · exact (hg.tlow x hx y hy).2
      · exact hg.tbnd x hx y hy p hp
    · simp only [veTypes, List.mem_cons, List.mem_map] at ht
      rcases ht with rfl | ⟨p, hp, rfl⟩
      · exact hg.vtyp x hx y hy
      · exact hg.vbnd x hx y hy p hp
  refine ACalls.of_awp false Tryz.func8 (by decide) rfl ?_
  simp only [show Tryz.f8.ntmps = 49 from rfl, List.length_cons, List.length_nil, Nat.reduceAdd, Nat.reduceSub, List.replicate, List.cons_append, List.nil_append, agg, List.map_cons, List.map_nil]
  simp only [go_sem]
  refine awp_loop (ι := Nat × Nat) (fun z => [.d (.sl false (env.map If.enc)), .any, .any, .d (.int .i64 z.2), .d (.int .i64 z.1), .any, .any, .any, .any, .any, .any, .any, .any, .any, .any, .any, .any, .any, .any, .any, .any, .any, .any, .any, .any, .any, .any, .any, .any, .any, .any, .any, .any, .any, .any, .any, .any, .any, .any, .any, .any, .any, .any, .any, .any, .any, .any, .any, .any]) (fun _ => []) (fun z => env.length - z.1)
    (fun z => z.1 ≤ env.length ∧ z.2 + ((env.drop z.1).map ifSize).sum = envSize env) (0, env.length) ⟨by omega, rfl⟩ (Weak.les (by repeat (first | exact lesA_nil | refine lesA_cons (AV.le_any _) ?_ | refine lesA_cons (AV.le_refl _) ?_ | refine lesA_cons (AV.le_pure rfl) ?_))) ?_
  rintro ⟨i, n⟩ ⟨hi, ha⟩
  simp only at hi ha
  simp only [go_sem]
  refine cnd_lt (fun hlt => ?_) (fun hge => ?_)
  · have hd := List.drop_eq_getElem_cons hlt
    have hx := List.getElem_mem hlt
    rw [hd, List.map_cons, List.sum_cons] at ha
    have htl : (ifTypes env[i]).length ≤ ((ifTypes env[i]).map Ty.size).sum := by
      have := length_le_sum ((ifTypes env[i]).map Ty.size) (fun s hs => by obtain ⟨t, _, rfl⟩ := List.mem_map.1 hs; exact t.size_pos)
      simpa using this
    have hti := htot i hlt
    unfold ifSize at hti
    simp only [go_sem]
    refine res_index rfl rfl (by omega) (map_at If.enc hlt) (If.enc_len _) ?_
    simp only [go_sem, List.take_of_length_le (Nat.le_of_eq (If.enc_len _))]
    refine (ref_Types7 env[i] (hg.types _ hx) (hg.values _ hx) (hg.tpars _ hx) (hg.vpars _ hx) (by omega)).call (by simp only [go_sem, agg]) rfl ?_
    simp only [go_sem]
    refine awp_loop (ι := Nat × Nat) (fun z => [.d (.sl false (env.map If.enc)), .any, .any, .d (.int .i64 z.2), .d (.int .i64 i), .d (.sl false ((ifTypes env[i]).map Ty.enc)), .d (.int .i64 z.1), .any, .any, .any, .any, .any, .any, .any, .any, .any, .any, .any, .any, .any, .any, .any, .any, .any, .any, .any, .any, .any, .any, .any, .any, .any, .any, .any, .any, .any, .any, .any, .any, .any, .any, .any, .any, .any, .any, .any, .any, .any, .any]) (fun _ => []) (fun z => (ifTypes env[i]).length - z.1)
      (fun z => z.1 ≤ (ifTypes env[i]).length ∧ z.2 + (((ifTypes env[i]).drop z.1).map Ty.size).sum = n + ((ifTypes env[i]).map Ty.size).sum) (0, n) ⟨by omega, rfl⟩ (Weak.les (by repeat (first | exact lesA_nil | refine lesA_cons (AV.le_any _) ?_ | refine lesA_cons (AV.le_refl _) ?_ | refine lesA_cons (AV.le_pure rfl) ?_))) ?_
    rintro ⟨j, m⟩ ⟨hj, hb⟩
    simp only at hj hb
    simp only [go_sem]
    have hii : ifSize env[i] = ((ifTypes env[i]).map Ty.size).sum + env[i].aliases.length + env[i].depr.length := rfl
    refine cnd_lt (fun hlj => ?_) (fun hgj => ?_)
    · have hdj := List.drop_eq_getElem_cons hlj
      rw [hdj, List.map_cons, List.sum_cons] at hb
      simp only [go_sem]
      refine res_index rfl rfl (by omega) (map_at Ty.enc hlj) (Ty.enc_len _) ?_
      simp only [go_sem]
      refine (ref_TypeSize _ (hgd _ hx _ (List.getElem_mem hlj))).call (by simp only [go_sem, agg]) rfl ?_
      simp only [go_sem, wrap_succ (i := j) (by omega), wrap_add (i := m) (j := (ifTypes env[i])[j].size) (by omega)]
      exact ⟨(j + 1, m + (ifTypes env[i])[j].size), by show _ - (j + 1) < _ - j; omega, ⟨hlj, by show (m + (ifTypes env[i])[j].size) + (((ifTypes env[i]).drop (j + 1)).map Ty.size).sum = _; omega⟩, Weak.les (by repeat (first | exact lesA_nil | refine lesA_cons (AV.le_any _) ?_ | refine lesA_cons (AV.le_refl _) ?_ | refine lesA_cons (AV.le_pure rfl) ?_))⟩
    · have hnil : (ifTypes env[i]).drop j = [] := List.drop_eq_nil_of_le hgj
      rw [hnil] at hb
      simp only [List.map_nil, List.sum_nil, Nat.add_zero] at hb
      simp only [go_sem]
      refine awp_draw0 [false, false, false, false, false, false, false, false, false, false, false, false, false, false, false, false] mixed (by kernel_rfl) ?_
      simp only [go_sem]
      refine res_index rfl rfl (by omega) (map_at If.enc hlt) (If.enc_len _) ?_
      simp only [go_sem, If.enc_eq]
      refine res_index rfl rfl (by omega) (map_at If.enc hlt) (If.enc_len _) ?_
      simp only [go_sem, If.enc_eq]
      simp only [wrap_add (i := m) (j := env[i].aliases.length) (by omega), wrap_add (i := m + env[i].aliases.length) (j := env[i].depr.length) (by omega), wrap_succ (i := i) (by omega)]
      exact ⟨(i + 1, m + env[i].aliases.length + env[i].depr.length), by show _ - (i + 1) < _ - i; omega, ⟨hlt, by show (m + env[i].aliases.length + env[i].depr.length) + ((env.drop (i + 1)).map ifSize).sum = _; omega⟩, Weak.les (by repeat (first | exact lesA_nil | refine lesA_cons (AV.le_any _) ?_ | refine lesA_cons (AV.le_refl _) ?_ | refine lesA_cons (AV.le_pure rfl) ?_))⟩
  · simp only [go_sem]
    have hnil : env.drop i = [] := List.drop_eq_nil_of_le hge
    rw [hnil] at ha
    simp only [List.map_nil, List.sum_nil, Nat.add_zero] at ha
    exact ret_fun rfl (by simp [go_sem, ha]) rfl

def node (env : Env) (vars : List Str) (t : Ty) : Int :=
  if t.kind = 9 ∧ vars.contains t.name = false then 4 else
  if t.kind = 10 then (if (tyAt env t.module t.name).2.2 ≠ 0 then (tyAt env t.module t.name).2.2 else if ((tyAt env t.module t.name).1.params.length : Int) ≠ (t.args.length : Int) then 11 else 0) else 0

theorem ref_has8 (l : List Str) (s : Str) (h : l.length ≤ 4294967296) : Fun Tryz.prog 67 [.d (.sl false (l.map sE)), .d (.str s)] (.d (.bool (l.contains s))) := by
  refine ACalls.of_awp false Tryz.func67 (by decide) rfl ?_
  simp only [show Tryz.f67.ntmps = 8 from rfl, List.length_cons, List.length_nil, Nat.reduceAdd, Nat.reduceSub, List.replicate, List.cons_append, List.nil_append, agg, List.map_cons, List.map_nil]
  simp only [go_sem]
  refine (ref_has l s h).call (by simp only [go_sem]) rfl ?_
  simp only [go_sem]; exact ret_fun rfl (by simp [go_sem]) rfl

theorem ref_node (env : Env) (vars : List Str) (hg : env.good) (hv : vars.length ≤ 1048576) (t : Ty) (ht : t.good) : Fun Tryz.prog 30 [.d (.sl false (env.map If.enc)), .d (.sl false (vars.map sE)), agg t.enc] (.d (.int .i64 (firstErr (t.nodes.map (node env vars))))) := by
  revert ht
  refine ty_induct (M := fun t => t.good → Fun Tryz.prog 30 [.d (.sl false (env.map If.enc)), .d (.sl false (vars.map sE)), agg t.enc] (.d (.int .i64 (firstErr (t.nodes.map (node env vars)))))) (fun t ih ht => ?_) t
  have hs := ht.2
  have hp := t.parts_le
  have hvs := firstErr_nodes (node env vars) t
  generalize firstErr (t.nodes.map (node env vars)) = v at hvs ⊢
  refine ACalls.of_awp false Tryz.func30 (by decide) rfl ?_
  simp only [show Tryz.f30.ntmps = 64 from rfl, List.length_cons, List.length_nil, Nat.reduceAdd, Nat.reduceSub, List.replicate, List.cons_append, List.nil_append, agg, List.map_cons, List.map_nil]
  refine (fun (key : (fun (c : Code) (Q : AQ) => node env vars t = 0 → ∀ ts J, lesA ts [.d (.sl false (env.map If.enc)), .d (.sl false (vars.map sE)), .any, .any, .any, .any, .any, .any, .any, .any, .d (.sl false (t.parts.map Ty.enc)), .d (.int .i64 0), .any, .any, .any, .any, .any, .any, .any, .any, .any, .any, .any, .any, .any, .any, .any, .any, .any, .any, .any, .any, .any, .any, .any, .any, .any, .any, .any, .any, .any, .any, .any, .any, .any, .any, .any, .any, .any, .any, .any, .any, .any, .any, .any, .any, .any, .any, .any, .any, .any, .any, .any, .any] → awp Tryz.prog false 0 c Q ts J) ?c ?Q) => ?main) ?h
  case main =>
    have tail : node env vars t = 0 → ∀ (k : AV → List HO → Prop) (J : List HO), k (.d (.sl false (t.parts.map Ty.enc))) J → ACalls Tryz.prog 26 [.agg (t.enc.map .d)] J k := fun _ k J hk => (ref_Parts t ht).call (by simp only [go_sem, agg]) rfl hk
    simp only [go_sem]
    rw [show t.enc = _ from Ty.enc_eq t]
    simp only [List.map_cons, List.map_nil]
    have fold : List.map AV.d t.enc = [AV.d (.int .i64 t.kind), .d (.str t.module), .d (.str t.name), .d (.sl false (t.args.map Ty.enc)), .d (.sl false (t.fields.map Fd.enc))] := by rw [Ty.enc_eq]; rfl
    by_cases h9 : t.kind = 9
    · have e9 := eq_true h9
      have e10 : (t.kind = 10) = False := eq_false (by omega)
      simp only [go_sem, e9]
      refine (ref_has8 vars t.name (by omega)).call (by simp only [go_sem]) rfl ?_
      cases hc : vars.contains t.name
      · simp only [go_sem]
        have hn : node env vars t = 4 := if_pos ⟨h9, hc⟩
        rw [hvs, hn]; exact ret_fun rfl (by simp [go_sem]) rfl
      · have hn : node env vars t = 0 := by unfold node; rw [if_neg (fun h => by rw [hc] at h; exact absurd h.2 (by simp)), if_neg (by omega)]
        simp only [go_sem, e10]
        rw [← fold]
        refine tail hn _ _ ?_
        simp only [go_sem]
        refine key hn _ _ ?_
        exact (by repeat (first | exact lesA_nil | refine lesA_cons (AV.le_any _) ?_ | refine lesA_cons (AV.le_refl _) ?_ | refine lesA_cons (AV.le_pure rfl) ?_))
    · by_cases h10 : t.kind = 10
      · have e10 := eq_true h10
        simp only [go_sem, h9, e10]
        refine (ref_Type7 env t.module t.name hg).call (by simp only [go_sem]) (by simp [go_sem, agg]) ?_
        simp only [go_sem, agg]
        refine res_storeAll rfl (by simp [AV.one]) (by simp [TE.enc_len]) rfl ?_
        by_cases h0 : (tyAt env t.module t.name).2.2 = 0
        · have e0 := eq_true h0
          simp only [go_sem, e0, TE.enc_eq, List.map_cons]
          by_cases hl : ((tyAt env t.module t.name).1.params.length : Int) = (t.args.length : Int)
          · have el := eq_true hl
            have hn : node env vars t = 0 := by unfold node; rw [if_neg (fun h => h9 h.1), if_pos h10, if_neg (fun h => h h0), if_neg (fun h => h hl)]
            simp only [go_sem, el]
            rw [← fold]
            refine tail hn _ _ ?_
            simp only [go_sem]
            refine key hn _ _ ?_
            exact (by repeat (first | exact lesA_nil | refine lesA_cons (AV.le_any _) ?_ | refine lesA_cons (AV.le_refl _) ?_ | refine lesA_cons (AV.le_pure rfl) ?_))
          · have hn : node env vars t = 11 := by unfold node; rw [if_neg (fun h => h9 h.1), if_pos h10, if_neg (fun h => h h0), if_pos hl]
            simp only [go_sem, hl]
            rw [hvs, hn]; exact ret_fun rfl (by simp [go_sem]) rfl
        · have hn : node env vars t = (tyAt env t.module t.name).2.2 := by unfold node; rw [if_neg (fun h => h9 h.1), if_pos h10, if_pos h0]
          simp only [go_sem, h0]
          rw [hvs, hn, if_neg h0]; exact ret_fun rfl (by simp [go_sem]) rfl
      · have hn : node env vars t = 0 := by unfold node; rw [if_neg (fun h => h9 h.1), if_neg h10]
        simp only [go_sem, h9, h10]
        rw [← fold]
        refine tail hn _ _ ?_
        simp only [go_sem]
        refine key hn _ _ ?_
        exact (by repeat (first | exact lesA_nil | refine lesA_cons (AV.le_any _) ?_ | refine lesA_cons (AV.le_refl _) ?_ | refine lesA_cons (AV.le_pure rfl) ?_))
  case h =>
    intro hn ts J hts
    rw [hvs, if_pos hn]
    refine awp_loop (ι := Nat) (fun i => [.d (.sl false (env.map If.enc)), .d (.sl false (vars.map sE)), .any, .any, .any, .any, .any, .any, .any, .any, .d (.sl false (t.parts.map Ty.enc)), .d (.int .i64 i), .any, .any, .any, .any, .any, .any, .any, .any, .any, .any, .any, .any, .any, .any, .any, .any, .any, .any, .any, .any, .any, .any, .any, .any, .any, .any, .any, .any, .any, .any, .any, .any, .any, .any, .any, .any, .any, .any, .any, .any, .any, .any, .any, .any, .any, .any, .any, .any, .any, .any, .any, .any]) (fun _ => []) (fun i => t.parts.length - i)
      (fun i => i ≤ t.parts.length ∧ firstErr (t.parts.map fun p => firstErr (p.nodes.map (node env vars))) = firstErr ((t.parts.drop i).map fun p => firstErr (p.nodes.map (node env vars)))) 0 ⟨by omega, rfl⟩ (Weak.ld 0 hts (Nat.le_refl _) (by simp) (by simp [go_sem]) (by simp)) ?_
    rintro i ⟨hi, ha⟩
    simp only [go_sem]
    refine cnd_lt (fun hlt => ?_) (fun hge => ?_)
    · have hd := List.drop_eq_getElem_cons hlt
      rw [hd, List.map_cons, firstErr] at ha
      have hm : t.parts[i] ∈ t.parts := List.getElem_mem hlt
      simp only [go_sem]
      refine res_index rfl rfl (by omega) (map_at Ty.enc hlt) (Ty.enc_len _) ?_
      simp only [go_sem]
      refine (ih _ hm (ht.part hm)).call (by simp only [go_sem, agg]) rfl ?_
      by_cases hc : firstErr (t.parts[i].nodes.map (node env vars)) = 0
      · have hc' := eq_true hc
        simp only [go_sem, hc', wrap_succ (i := i) (by omega)]
        exact ⟨i + 1, by show _ - (i + 1) < _ - i; omega, ⟨hlt, by rw [ha, if_pos hc]⟩, Weak.les (by repeat (first | exact lesA_nil | refine lesA_cons (AV.le_any _) ?_ | refine lesA_cons (AV.le_refl _) ?_ | refine lesA_cons (AV.le_pure rfl) ?_))⟩
      · simp only [go_sem, hc]
        rw [ha, if_neg hc]; exact ret_fun rfl (by simp [go_sem]) rfl
    · simp only [go_sem]
      have hnil : t.parts.drop i = [] := List.drop_eq_nil_of_le hge
      rw [ha, hnil]; exact ret_fun rfl (by simp [go_sem, firstErr]) rfl

def typeIn (env : Env) (vars : List Str) (t : Ty) : Int := if checkTy t ≠ 0 then checkTy t else firstErr (t.nodes.map (node env vars))
theorem ref_Type8 (env : Env) (vars : List Str) (hg : env.good) (hv : vars.length ≤ 1048576) (t : Ty) (ht : t.good) : Fun Tryz.prog 11 [.d (.sl false (env.map If.enc)), .d (.sl false (vars.map sE)), agg t.enc] (.d (.int .i64 (typeIn env vars t))) := by
  refine ACalls.of_awp false Tryz.func11 (by decide) rfl ?_
  simp only [show Tryz.f11.ntmps = 17 from rfl, List.length_cons, List.length_nil, Nat.reduceAdd, Nat.reduceSub, List.replicate, List.cons_append, List.nil_append, agg, List.map_cons, List.map_nil]
  unfold typeIn
  simp only [go_sem]
  refine (ref_CheckType t ht).call (by simp only [go_sem, agg]) rfl ?_
  by_cases h : checkTy t = 0
  · have h' := eq_true h
    simp only [go_sem, h']
    refine (ref_node env vars hg hv t ht).call (by simp only [go_sem, agg]) rfl ?_
    simp only [go_sem]; exact ret_fun rfl (by simp [go_sem, h']) rfl
  · simp only [go_sem, h]; exact ret_fun rfl (by simp [go_sem, h]) rfl

end Go.Proofs.YthhmioodienlmaaGreatDoor

/- Walks over any heap: functions that are handed functions, and the objects these hold; results frozen. -/
namespace Go.Proofs.YthhmioodienlmaaGreatDoor
open Go

variable {P : Program} {G : List GI} {T : Tips} {K : Kmem} {w : World} {H H' : List HO}

/-- the objects name none that is not there -/
def Hok (H : List HO) : Prop := ∀ o ∈ H, o.inS (· < H.length)

theorem get_newk {r : List HO} {k : Nat} : (H ++ r)[H.length + k]? = r[k]? := by rw [List.getElem?_append_right (Nat.le_add_right _ _), Nat.add_sub_cancel_left]
theorem get_new {r : List HO} : (H ++ r)[H.length]? = r[0]? := get_newk (k := 0)
theorem hcells_newk {r : List HO} {k : Nat} : hcells (H ++ r) (H.length + k) = hcells r k := by unfold hcells; rw [get_newk]
theorem hcells_new {r : List HO} : hcells (H ++ r) H.length = hcells r 0 := hcells_newk (k := 0)
theorem hcells_old {r : List HO} {id : Nat} {cs : List AV} (h : H[id]? = some (.cells cs)) : hcells (H ++ r) id = some cs := by
  have := (List.getElem?_eq_some_iff.1 h).1
  simp [hcells, List.getElem?_append_left this, h]
theorem hcells_id {id : Nat} {cs : List AV} (h : H[id]? = some (.cells cs)) : hcells H id = some cs := by simp [hcells, h]
theorem set_new {r : List HO} {o : HO} : (H ++ r).set H.length o = H ++ r.set 0 o := by rw [List.set_append_right _ _ (Nat.le_refl _), Nat.sub_self]
theorem set_newk {r : List HO} {o : HO} {k : Nat} : (H ++ r).set (H.length + k) o = H ++ r.set k o := by rw [List.set_append_right _ _ (Nat.le_add_right _ _), Nat.add_sub_cancel_left]
theorem get_old {r : List HO} {id : Nat} {o : HO} (h : H[id]? = some o) : (H ++ r)[id]? = some o := by
  rw [List.getElem?_append_left (List.getElem?_eq_some_iff.1 h).1, h]
attribute [go_sem] hcells_new hcells_newk set_new set_newk get_new get_newk List.append_assoc Nat.add_assoc

mutual
theorem AV.free_inS {S : Nat → Prop} : ∀ a : AV, a.free = true → a.inS S
  | .d _, _ | .any, _ => by simp only [AV.inS]
  | .agg l, h => by simp only [AV.free] at h; simp only [AV.inS]; exact AV.frees_inS l h
  | .tup l, h => by simp only [AV.free] at h; simp only [AV.inS]; exact AV.frees_inS l h
  | .fn _ a c, h => by
    simp only [AV.free, Bool.and_eq_true] at h
    simp only [AV.inS]; exact ⟨AV.frees_inS a h.1, AV.frees_inS c h.2⟩
  | .ptr _ _, h | .map _, h | .iter _, h | .vec _ _ _, h | .arr _ _ _ _, h | .row _ _, h | .rp _ _ _ _ _, h => by simp [AV.free] at h
theorem AV.frees_inS {S : Nat → Prop} : ∀ l : List AV, AV.frees l = true → AV.inSs S l
  | [], _ => by simp only [AV.inSs]
  | a :: l, h => by
    simp only [AV.frees, Bool.and_eq_true] at h
    simp only [AV.inSs]; exact ⟨AV.free_inS a h.1, AV.frees_inS l h.2⟩
end

mutual
theorem AV.inS_mono {S S' : Nat → Prop} (h : ∀ i, S i → S' i) : ∀ a : AV, a.inS S → a.inS S'
  | .d _, _ | .any, _ => by simp only [AV.inS]
  | .agg l, r => by simp only [AV.inS] at r ⊢; exact AV.inSs_mono h l r
  | .tup l, r => by simp only [AV.inS] at r ⊢; exact AV.inSs_mono h l r
  | .fn _ a c, r => by simp only [AV.inS] at r ⊢; exact ⟨AV.inSs_mono h a r.1, AV.inSs_mono h c r.2⟩
  | .ptr _ _, r | .map _, r | .iter _, r | .vec _ _ _, r | .arr _ _ _ _, r | .row _ _, r | .rp _ _ _ _ _, r => by simp only [AV.inS] at r ⊢; exact h _ r
theorem AV.inSs_mono {S S' : Nat → Prop} (h : ∀ i, S i → S' i) : ∀ l : List AV, AV.inSs S l → AV.inSs S' l
  | [], _ => by simp only [AV.inSs]
  | a :: l, r => by simp only [AV.inSs] at r ⊢; exact ⟨AV.inS_mono h a r.1, AV.inSs_mono h l r.2⟩
end
theorem HO.inS_mono {S S' : Nat → Prop} (h : ∀ i, S i → S' i) {o : HO} (r : o.inS S) : o.inS S' := by
  cases o <;> simp only [HO.inS] at r ⊢
  · exact AV.inSs_mono h _ r
  · exact fun x hx => AV.inS_mono h _ (r x hx)
  · exact h _ r
  · exact AV.inSs_mono h _ r

/-- a function that leaves the heap as it was -/
def FunH (P : Program) (f : FuncId) (args : List AV) (H : List HO) (v : AV) : Prop := ACalls P f args H (fun x H' => x = v ∧ H' = H)
theorem FunH.call {f : FuncId} {args : List AV} {v : AV} {Kt : AV → List HO → Prop} (h : FunH P f args H v) (hk : Kt v H) : ACalls P f args H Kt := ACalls.mono h fun x H' hx => by obtain ⟨rfl, rfl⟩ := hx; exact hk
theorem FunH.callX {f : FuncId} {args : List AV} {v : AV} {Kt : AV → List HO → Prop} (h : FunH P f args H v) (hk : Kt v H) : callX P f args H Kt := ⟨v, H, h, hk⟩
theorem Fun.toH {f : FuncId} {args ps : List AV} {v : AV} (h : Fun P f ps v) (hp : AV.pures? args = some ps) (hf : v.free = true) : FunH P f args H v := h.call hp hf ⟨rfl, rfl⟩

theorem Weak.back {r : List HO} {x v : AV} (hp : x.pure? = some v) (hf : v.free = true) (hH : Hok H) : Weak H.length [x] (H ++ r) [v] H := by
  have h1 : Weak H.length [x] (H ++ r) [v] (H ++ r) := Weak.les (lesA_cons (AV.le_pure hp) lesA_nil)
  have h2 := Weak.drop (N := H.length) (n := H.length) (ts := [v]) (H := H ++ r) (Nat.le_refl _) (by simp) (by simp only [AV.inSs, and_true]; exact AV.free_inS v hf) (by rw [List.take_left]; exact hH)
  rw [List.take_left] at h2
  exact h1.trans h2

/-- the result, and the heap as it was -/
theorem ret_back {rs : List ResultVar} {ts : List AV} {r : List HO} {x v : AV} (hx : ares P rs ts (H ++ r) = some x) (hp : x.pure? = some v) (hf : v.free = true) (hH : Hok H) : aret P rs H.length (fun x H' => x = v ∧ H' = H) .ret ts (H ++ r) :=
  ret_ok hx v H (Weak.back hp hf hH) ⟨rfl, rfl⟩
theorem ret_back0 {rs : List ResultVar} {ts : List AV} {x v : AV} (hx : ares P rs ts H = some x) (hp : x.pure? = some v) (hf : v.free = true) (hH : Hok H) : aret P rs H.length (fun x H' => x = v ∧ H' = H) .ret ts H := by
  have := ret_back (r := []) (P := P) (rs := rs) (ts := ts) (x := x) (by rw [List.append_nil]; exact hx) hp hf hH
  rwa [List.append_nil] at this

/-- a call of a function value -/
def callv (P : Program) (f : AV) (args : List AV) (H : List HO) (Kt : AV → List HO → Prop) : Prop :=
  match f with
  | .fn (.func g) first capt => ACalls P g (first ++ args ++ capt) H Kt
  | .iter id => AYield P id args H Kt
  | _ => False
theorem aOp_callv {m : Bool} {t : Tmp} {as' : Array Operand} {tys : Array TypeId} {ts : List AV} {Kt : AV → List HO → Prop} : aOp P m (.call ⟨.value (.tmp t), as', tys⟩) ts H Kt = callv P (aev ts (.tmp t)) (aevs ts as') H Kt := by
  rfl
theorem callv_fn {g : FuncId} {a c args : List AV} {Kt : AV → List HO → Prop} : callv P (.fn (.func g) a c) args H Kt = ACalls P g (a ++ args ++ c) H Kt := by rfl
theorem callv_iter {id : Nat} {args : List AV} {Kt : AV → List HO → Prop} : callv P (.iter id) args H Kt = AYield P id args H Kt := by rfl
attribute [go_sem] aOp_callv callv_fn callv_iter

end Go.Proofs.YthhmioodienlmaaGreatDoor
