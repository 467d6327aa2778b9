/- The statement WellformedTypes: the Go function returns true, whatever the input (of a size that is bounded). -/
import Derived.Test.YthhmioodienlmaaGreatDoorKK
import Derived.Test.YthhmioodienlmaaGreatDoorKH
import Derived.Test.YthhmioodienlmaaGreatDoorRows
import Derived.ChangeArms
import Derived.ChangeShapes
import Derived.WideShapes
import Derived.Test.YthhmioodienlmaaGreatDoorKG
import Derived.ChangeSame
import Derived.ReadAgain
import Derived.ChangeBears
import Derived.Shelf.Vars
import Derived.Deep.DeepHandedRow
import Derived.Deep.DeepLaidRun
import Derived.ProofKit
import Derived.OpenShut
set_option linter.unusedSimpArgs false
set_option linter.unusedVariables false
namespace Go.Proofs.YthhmioodienlmaaGreatDoor
open Go
set_option maxRecDepth 20000
set_option pp.deepTerms false
set_option pp.deepTerms.threshold 6
variable {P : Program} {H : List HO}

theorem law_types (awake8 : Fun Tryz.prog 7 [] (.d (.bool true))) (env : Env) (vars : List Str) (t : Ty) (hg : env.good) (hs : envSize env ≤ 2147483648) (hv : vars.length ≤ 1048576) (ht : t.good) :
    Fun Tryz.prog 3 [.d (.sl false (env.map If.enc)), .d (.sl false (vars.map sE)), agg t.enc] (.d (.bool true)) := by
  refine ACalls.of_awp false Tryz.func3 (by decide) rfl ?_
  simp only [show Tryz.f3.ntmps = 36 from rfl, List.length_cons, List.length_nil, Nat.reduceAdd, Nat.reduceSub, List.replicate, List.cons_append, List.nil_append, agg, List.map_cons, List.map_nil]
  simp only [go_sem]
  refine awake8.call rfl rfl ?_
  simp only [go_sem]
  refine (ref_Size env hg hs).call (by simp only [go_sem]) rfl ?_
  by_cases h1 : (600 : Int) < (envSize env : Int)
  · simp only [go_sem, h1]
    exact ret_fun rfl (by simp [go_sem]) rfl
  · simp only [go_sem, h1, Ty.enc_take]
    refine (ref_TypeSize t ht).call (by simp only [go_sem, agg]) (by simp [go_sem, agg]) ?_
    by_cases h2 : (600 : Int) < (t.size : Int)
    · simp only [go_sem, h2, Ty.enc_take]
      refine (ref_TypeSize t ht).call (by simp only [go_sem, agg]) (by simp [go_sem, agg]) ?_
      by_cases h3 : (t.size : Int) ≤ 4096
      · simp only [go_sem, h3]
        exact ret_fun rfl (by simp [go_sem]) rfl
      · simp only [go_sem, h3]
        by_cases h4 : (20 : Int) < (vars.length : Int)
        · simp only [go_sem, h4]
          exact ret_fun rfl (by simp [go_sem]) rfl
        · simp only [go_sem, h4]
          refine awp_draw0 [false, false, false, false, false, false, false, false, false, false] mixed (by kernel_rfl) ?_
          simp only [go_sem, Ty.enc_take]
          refine (wel_Type names_ok env vars hg hv t ht).callX (by simp only [go_sem, agg]) (by simp [go_sem, agg]) ?_
          simp only [go_sem, Ty.enc_take]
          refine (ref_Type8 env vars hg hv t ht).callX (by simp only [go_sem, agg]) (by simp [go_sem, agg]) ?_
          simp only [go_sem]
          exact ret_fun rfl (by simp [go_sem]) rfl
    · simp only [go_sem, h2, Ty.enc_take]
      by_cases h4 : (20 : Int) < (vars.length : Int)
      · simp only [go_sem, h4]
        exact ret_fun rfl (by simp [go_sem]) rfl
      · simp only [go_sem, h4]
        refine awp_draw0 [false, false, false, false, false, false, false, false, false, false] mixed (by kernel_rfl) ?_
        simp only [go_sem, Ty.enc_take]
        refine (wel_Type names_ok env vars hg hv t ht).callX (by simp only [go_sem, agg]) (by simp [go_sem, agg]) ?_
        simp only [go_sem, Ty.enc_take]
        refine (ref_Type8 env vars hg hv t ht).callX (by simp only [go_sem, agg]) (by simp [go_sem, agg]) ?_
        simp only [go_sem]
        exact ret_fun rfl (by simp [go_sem]) rfl

end Go.Proofs.YthhmioodienlmaaGreatDoor

/- From the form's reading of the arguments to the abstract machine's data: readers. -/
namespace Go.Proofs.YthhmioodienlmaaGreatDoor
open Go

/-- cells that lie in a value, described -/
def RelL (K : Kmem) : List D → List Value → Prop
  | [], vs => vs = []
  | d :: ds, vs => ∃ v ws, vs = v :: ws ∧ RelD K d v ∧ RelL K ds ws

theorem RelL.len {K : Kmem} : ∀ {ds : List D} {vs : List Value}, RelL K ds vs → vs.length = ds.length
  | [], _, h => by simp only [RelL] at h; subst h; rfl
  | _ :: _, _, h => by simp only [RelL] at h; obtain ⟨v, ws, rfl, _, h⟩ := h; simp only [List.length_cons, h.len]
theorem RelL.one {K : Kmem} {d : D} {v : Value} (h : RelD K d v) : RelL K [d] [v] := ⟨v, [], rfl, h, rfl⟩
theorem RelL.append {K : Kmem} : ∀ {ds es : List D} {vs ws : List Value}, RelL K ds vs → RelL K es ws → RelL K (ds ++ es) (vs ++ ws)
  | [], _, _, _, h, k => by simp only [RelL] at h; subst h; exact k
  | _ :: _, _, _, _, h, k => by
    simp only [RelL] at h
    obtain ⟨v, ws, rfl, h1, h⟩ := h
    exact ⟨v, _, rfl, h1, h.append k⟩
theorem RelL.step {K : Kmem} {ds es : List D} {cs : List Value} {o s : Nat} (h : RelL K ds ((cs.drop o).take s)) (k : RelL K es (cs.drop (o + s))) : RelL K (ds ++ es) (cs.drop o) := by
  have := h.append k
  rw [← List.drop_drop, List.take_append_drop] at this
  exact this
theorem RelL.last {K : Kmem} {cs : List Value} {o : Nat} (h : cs.length ≤ o) : RelL K [] (cs.drop o) := List.drop_eq_nil_of_le h
theorem RelL.as {K : Kmem} {G : List GI} {T : Tips} : ∀ {ds : List D} {vs : List Value}, RelL K ds vs → RelAs G T K (ds.map .d) vs
  | [], _, h => by simpa only [RelL, RelAs, List.map_nil] using h
  | _ :: _, _, h => by
    simp only [RelL] at h
    obtain ⟨v, ws, rfl, h1, h⟩ := h
    simp only [List.map_cons, RelAs]
    exact ⟨v, ws, rfl, by simpa only [RelA] using h1, h.as⟩

/-- the cells of a world that may be read -/
def kOf (w : World) : Kmem := fun b o => w.cell? ⟨b, o, none⟩
theorem RelL.cells {w : World} {b : Nat} : ∀ {ds : List D} {vs : List Value} {o : Nat}, RelL (kOf w) ds vs → (∀ i, i < vs.length → w.cell? ⟨b, o + i, none⟩ = vs[i]?) → RelCs (kOf w) b o ds
  | [], _, _, _, _ => by simp only [RelCs]
  | _ :: _, _, o, h, k => by
    simp only [RelL] at h
    obtain ⟨v, ws, rfl, h1, h⟩ := h
    simp only [RelCs]
    refine ⟨⟨v, ?_, h1⟩, h.cells fun i hi => ?_⟩
    · have := k 0 (by simp)
      simpa [kOf] using this
    · have := k (i + 1) (by simpa using hi)
      rw [List.getElem?_cons_succ] at this
      rw [← this]
      congr 2
      omega

section
variable {Hd : Type} {enc : TypeId × Value → Hd} {w : World}

/-- a reader of the values of a type -/
def Rd (enc : TypeId × Value → Hd) (w : World) (n : Nat) (t : TypeId) {α : Type} (f : α → List D) (wt : α → Nat) : Prop :=
  ∀ cs x, DataW.trod enc Tryz.prog w 0 (fun _ => true) true n t cs = some x → Rows.uptoBulk x.1 ≤ 1048576 → ∃ a : α, RelL (kOf w) (f a) cs ∧ wt a ≤ Rows.uptoBulk x.1

theorem bulkAll_ge {l : List (DataW Hd)} {d : DataW Hd} (h : d ∈ l) : Rows.uptoBulk d ≤ Rows.uptoBulkAll l := by
  induction l with
  | nil => cases h
  | cons x l ih =>
    simp only [Rows.uptoBulkAll]
    rcases List.mem_cons.1 h with rfl | h
    · omega
    · have := ih h; omega
theorem bulk_pos (d : DataW Hd) : 1 ≤ Rows.uptoBulk d := by
  unfold Rows.uptoBulk
  split <;> omega
theorem bulkAll_len (l : List (DataW Hd)) : l.length ≤ Rows.uptoBulkAll l := by
  induction l with
  | nil => simp
  | cons x l ih => have := bulk_pos x; simp only [Rows.uptoBulkAll, List.length_cons]; omega

/-- the fields' types and places -/
noncomputable def structIs (t : TypeId) (l : List (TypeId × Nat)) : Bool := match Tryz.prog.underlying t with
  | some (.struct fs) => decide (fs.toList.map (fun f => (f.type, f.offset)) = l)
  | _ => false
def FldsAt (enc : TypeId × Value → Hd) (w : World) (n : Nat) (cs : List Value) : List (TypeId × Nat) → List (DataW Hd × List MemPlace) → Prop
  | [], xs => xs = []
  | (t, o) :: l, xs => ∃ x ys, xs = x :: ys ∧ DataW.trod enc Tryz.prog w 0 (fun _ => true) true n t ((cs.drop o).take (Tryz.prog.cellsOf t)) = some x ∧ FldsAt enc w n cs l ys
theorem fldsAt_of {n : Nat} {cs : List Value} : ∀ {l : List (TypeId × Nat)} {xs : List (DataW Hd × List MemPlace)}, xs.length = l.length →
    (∀ (i : Nat) (t : TypeId) (o : Nat), l[i]? = some (t, o) → DataW.trod enc Tryz.prog w 0 (fun _ => true) true n t ((cs.drop o).take (Tryz.prog.cellsOf t)) = xs[i]?) → FldsAt enc w n cs l xs
  | [], xs, h, _ => by simpa [FldsAt] using h
  | (t, o) :: l, [], h, _ => by simp at h
  | (t, o) :: l, x :: xs, h, k => ⟨x, xs, rfl, by simpa using k 0 t o rfl, fldsAt_of (by simpa using h) fun i t o e => by simpa using k (i + 1) t o (by simpa using e)⟩
theorem trod_struct' {t : TypeId} {l : List (TypeId × Nat)} {n : Nat} {cs : List Value} {x : DataW Hd × List MemPlace} (ht : structIs t l = true) (h : DataW.trod enc Tryz.prog w 0 (fun _ => true) true n t cs = some x) :
    ∃ (xs : List (DataW Hd × List MemPlace)) (m : Nat), n = m + 1 ∧ x = (.agg (xs.map (·.1)), xs.flatMap (·.2)) ∧ cs.length = Tryz.prog.cellsOf t ∧ FldsAt enc w m cs l xs := by
  unfold structIs at ht
  split at ht
  · rename_i fs hu
    obtain ⟨xs, m, h1, h2, h3, h4, h5⟩ := DataW.trod_struct hu h
    have ht := of_decide_eq_true ht
    subst ht
    refine ⟨xs, m, h1, h2, h3, fldsAt_of (by simpa using h4) fun i t o e => ?_⟩
    simp only [List.getElem?_map, Option.map_eq_some_iff, Array.getElem?_toList, Prod.mk.injEq] at e
    obtain ⟨f, hf, rfl, rfl⟩ := e
    exact h5 i f hf
  · cases ht

theorem rd_int {n : Nat} {t : TypeId} (ht : Tryz.prog.underlying t = some (.int .i64)) : Rd enc w n t (fun k : Int => [.int .i64 k]) (fun _ => 1) := by
  intro cs x h _
  obtain ⟨k, rfl, rfl, _⟩ := DataW.trod_int ht h
  exact ⟨k, RelL.one (by simp only [RelD]), by simp [Rows.uptoBulk]⟩
theorem rd_bool {n : Nat} {t : TypeId} (ht : Tryz.prog.underlying t = some .bool) : Rd enc w n t (fun k : Bool => [.bool k]) (fun _ => 1) := by
  intro cs x h _
  obtain ⟨k, rfl, rfl⟩ := DataW.trod_bool ht h
  exact ⟨k, RelL.one (by simp only [RelD]), by simp [Rows.uptoBulk]⟩
theorem rd_str {n : Nat} {t : TypeId} (ht : Tryz.prog.underlying t = some .string) : Rd enc w n t sE (fun s => s.length + 1) := by
  intro cs x h hb
  obtain ⟨s, rfl, rfl, _⟩ := DataW.trod_string ht h
  simp only [Rows.uptoBulk] at hb
  refine ⟨s.data.toList, RelL.one ?_, by simp [Rows.uptoBulk]⟩
  simp only [RelD]
  exact ⟨by simp, by simp only [lim]; omega⟩

theorem rd_elems {α : Type} {e : TypeId} {f : α → List D} {wt : α → Nat} {b o c : Nat} : ∀ (l : List (DataW Hd × List MemPlace)) (j : Nat),
    (∀ i, i < l.length → ∃ cs, (∀ k, k < cs.length → w.cell? ⟨b, o + (j + i) * c + k, none⟩ = cs[k]?) ∧ ∃ x, l[i]? = some x ∧ ∃ a, RelL (kOf w) (f a) cs ∧ wt a ≤ Rows.uptoBulk x.1) → (∀ a, (f a).length = c) →
    ∃ ys : List α, ys.length = l.length ∧ RelEs (kOf w) b (o + j * c) (ys.map f) ∧ (ys.map wt).sum ≤ Rows.uptoBulkAll (l.map (·.1))
  | [], j, _, _ => ⟨[], rfl, by simp only [List.map_nil, RelEs], by simp⟩
  | x :: l, j, h, hc => by
    obtain ⟨cs, h1, y, h2, a, h3, h4⟩ := h 0 (by simp)
    simp only [List.getElem?_cons_zero, Option.some.injEq] at h2
    subst h2
    obtain ⟨ys, e1, e2, e3⟩ := rd_elems (e := e) (f := f) (wt := wt) (b := b) (o := o) (c := c) l (j + 1) (fun i hi => by
      obtain ⟨cs, k1, k2⟩ := h (i + 1) (by simpa using hi)
      refine ⟨cs, fun k hk => ?_, by simpa using k2⟩
      rw [← k1 k hk, show j + 1 + i = j + (i + 1) by omega]) hc
    refine ⟨a :: ys, by simp [e1], ?_, ?_⟩
    · simp only [List.map_cons, RelEs, hc]
      refine ⟨RelL.cells h3 (fun i hi => by simpa using h1 i hi), ?_⟩
      rw [show o + j * c + c = o + (j + 1) * c by rw [Nat.add_mul]; omega]
      exact e2
    · simp only [List.map_cons, List.sum_cons, Rows.uptoBulkAll]
      omega

theorem add_at (b o i : Nat) : (⟨b, o, none⟩ : Addr).add i = ⟨b, o + i, none⟩ := by unfold Addr.add; split <;> simp_all

/-- a slice of what can be read -/
theorem rd_slice {α : Type} {t e : TypeId} {f : α → List D} {wt : α → Nat} {n c : Nat} (ht : Tryz.prog.underlying t = some (.slice e)) (hc : Tryz.prog.cellsOf e = c) (hc0 : 0 < c) (hf : ∀ a, (f a).length = c)
    (hr : ∀ m, m < n → Rd enc w m e f wt) : Rd enc w n t (fun l : List α => [.sl false (l.map f)]) (fun l => (l.map wt).sum + 1) := by
  intro cs x h hb
  rcases DataW.trod_slice ht h with ⟨rfl, rfl⟩ | ⟨a, len, cap, elems, rest, m, hn, rfl, rfl, h1, h2, h3, h4, h5, h6, _⟩
  · refine ⟨[], RelL.one ?_, by simp [Rows.uptoBulk]⟩
    simp only [RelD, List.map_nil, List.length_nil]
    exact ⟨none, 0, 0, rfl, rfl, Nat.le_refl _, (fun h => by cases h), by simp, fun _ => rfl, (fun _ h => by cases h)⟩
  · obtain ⟨h6, h7⟩ := h6 rfl
    simp only [Rows.uptoBulk] at hb
    have hlen := bulkAll_len (elems.map (·.1))
    rw [List.length_map] at hlen
    have hcell : ∀ i, i < cap → ∃ cs, w.cells? 0 (a.add (i * c)) c = some cs := by
      intro i hi
      by_cases hl : i < len
      · have := h5 i hl
        rw [hc, List.getElem?_eq_getElem (by omega), Option.bind_eq_some_iff] at this
        exact ⟨_, this.choose_spec.1⟩
      · have := h7 (i - len) (by omega)
        rw [hc, List.getElem?_eq_getElem (by omega), Option.bind_eq_some_iff, show len + (i - len) = i by omega] at this
        exact ⟨_, this.choose_spec.1⟩
    have hspot : cap ≠ 0 → a.spot = none := by
      intro h0
      obtain ⟨cs, hcs⟩ := hcell 0 (by omega)
      obtain ⟨_, g1, g2⟩ := World.cells?_some hcs
      have := g2 0 hc0
      rw [List.getElem?_eq_getElem (by omega)] at this
      have := World.cell?_spot this
      cases a with
      | mk b o s => cases s <;> simp_all [Addr.add]
    by_cases hl0 : len = 0
    · refine ⟨[], RelL.one ?_, by simp [Rows.uptoBulk]⟩
      simp only [RelD, List.map_nil, List.length_nil]
      exact ⟨some a, len, cap, rfl, hl0, h2, (fun h => by cases h), by simp only [lim]; omega, fun h => (by cases h), fun ad e => ⟨by cases e; exact hspot, ⟨0, fun _ h => (by cases h)⟩, by simp only [RelEs]⟩⟩
    · have hs := hspot (by omega)
      obtain ⟨b, o, s⟩ := a
      subst hs
      obtain ⟨ys, e1, e2, e3⟩ := rd_elems (w := w) (e := e) (f := f) (wt := wt) (b := b) (o := o) (c := c) elems 0 (fun i hi => by
        have := h5 i (by omega)
        rw [hc, List.getElem?_eq_getElem hi, Option.bind_eq_some_iff] at this
        obtain ⟨cs, g1, g2⟩ := this
        obtain ⟨_, g3, g4⟩ := World.cells?_some g1
        have hm : elems[i].1 ∈ elems.map (·.1) := List.mem_map_of_mem (List.getElem_mem hi)
        have hbe := bulkAll_ge hm
        obtain ⟨y, y1, y2⟩ := hr m (by omega) cs elems[i] g2 (by omega)
        refine ⟨cs, fun k hk => ?_, _, List.getElem?_eq_getElem hi, y, y1, y2⟩
        have := g4 k (by omega)
        rw [← this]
        simp only [add_at, Nat.zero_add]) hf
      refine ⟨ys, RelL.one ?_, by simp only [Rows.uptoBulk]; omega⟩
      simp only [RelD]
      refine ⟨some ⟨b, o, none⟩, len, cap, rfl, by simp; omega, h2, (fun h => by cases h), by simp only [lim]; omega, fun h => (by cases h), fun ad e => ?_⟩
      cases e
      refine ⟨fun _ => rfl, ⟨c, fun e he => ?_⟩, by simpa using e2⟩
      obtain ⟨a, _, rfl⟩ := List.mem_map.1 he
      exact hf a
end

end Go.Proofs.YthhmioodienlmaaGreatDoor

/- Readers of types and of environments; what the bulk bounds. -/
namespace Go.Proofs.YthhmioodienlmaaGreatDoor
open Go

mutual
def Ty.wt : Ty → Nat
  | .mk _ m n a fs => m.length + n.length + Ty.wtL a + Fd.wtL fs + 6
def Ty.wtL : List Ty → Nat
  | [] => 0
  | t :: l => t.wt + Ty.wtL l
def Fd.wt : Fd → Nat
  | .mk n t _ => n.length + t.wt + 3
def Fd.wtL : List Fd → Nat
  | [] => 0
  | f :: l => f.wt + Fd.wtL l
end
theorem Ty.wtL_eq : ∀ l : List Ty, Ty.wtL l = (l.map Ty.wt).sum
  | [] => rfl
  | t :: l => by simp only [Ty.wtL, List.map_cons, List.sum_cons, Ty.wtL_eq l]
theorem Fd.wtL_eq : ∀ l : List Fd, Fd.wtL l = (l.map Fd.wt).sum
  | [] => rfl
  | t :: l => by simp only [Fd.wtL, List.map_cons, List.sum_cons, Fd.wtL_eq l]
def wts (l : List Nat) : Nat := l.sum + 1
def Pa.wt (p : Pa) : Nat := p.name.length + p.bound.wt + 3
def TE.wt (x : TE) : Nat := x.name.length + (x.params.map Pa.wt).sum + x.lower.wt + x.upper.wt + 3
def VE.wt (x : VE) : Nat := x.name.length + (x.params.map Pa.wt).sum + x.type.wt + 3
def AE.wt (x : AE) : Nat := x.name.length + x.module.length + x.target.length + 4
def DE.wt (x : DE) : Nat := x.name.length + x.note.length + 3
def If.wt (x : If) : Nat := x.path.length + (x.types.map TE.wt).sum + (x.values.map VE.wt).sum + (x.aliases.map AE.wt).sum + (x.depr.map DE.wt).sum + 6

theorem cInt : Tryz.prog.cellsOf 3 = 1 := by kernel_rfl
theorem cBool : Tryz.prog.cellsOf 4 = 1 := by kernel_rfl
theorem cStr : Tryz.prog.cellsOf 9 = 1 := by kernel_rfl
theorem cTy : Tryz.prog.cellsOf 28 = 5 := by kernel_rfl
theorem cFd : Tryz.prog.cellsOf 65 = 7 := by kernel_rfl
theorem cPa : Tryz.prog.cellsOf 53 = 7 := by kernel_rfl
theorem cTE : Tryz.prog.cellsOf 51 = 12 := by kernel_rfl
theorem cVE : Tryz.prog.cellsOf 101 = 7 := by kernel_rfl
theorem cAE : Tryz.prog.cellsOf 106 = 3 := by kernel_rfl
theorem cDE : Tryz.prog.cellsOf 119 = 2 := by kernel_rfl
theorem cIf : Tryz.prog.cellsOf 40 = 5 := by kernel_rfl
theorem csTy : Tryz.prog.cellsOf 25 = 1 := by kernel_rfl
theorem csFd : Tryz.prog.cellsOf 26 = 1 := by kernel_rfl
theorem csPa : Tryz.prog.cellsOf 49 = 1 := by kernel_rfl
theorem csTE : Tryz.prog.cellsOf 35 = 1 := by kernel_rfl
theorem csVE : Tryz.prog.cellsOf 36 = 1 := by kernel_rfl
theorem csAE : Tryz.prog.cellsOf 37 = 1 := by kernel_rfl
theorem csDE : Tryz.prog.cellsOf 38 = 1 := by kernel_rfl
theorem uInt : Tryz.prog.underlying 3 = some (.int .i64) := by kernel_rfl
theorem uBool : Tryz.prog.underlying 4 = some .bool := by kernel_rfl
theorem uStr : Tryz.prog.underlying 9 = some .string := by kernel_rfl
theorem usTy : Tryz.prog.underlying 25 = some (.slice 28) := by kernel_rfl
theorem usFd : Tryz.prog.underlying 26 = some (.slice 65) := by kernel_rfl
theorem usPa : Tryz.prog.underlying 49 = some (.slice 53) := by kernel_rfl
theorem usTE : Tryz.prog.underlying 35 = some (.slice 51) := by kernel_rfl
theorem usVE : Tryz.prog.underlying 36 = some (.slice 101) := by kernel_rfl
theorem usAE : Tryz.prog.underlying 37 = some (.slice 106) := by kernel_rfl
theorem usDE : Tryz.prog.underlying 38 = some (.slice 119) := by kernel_rfl
theorem uEnv : Tryz.prog.underlying 23 = some (.slice 40) := by kernel_rfl
theorem usStr : Tryz.prog.underlying 24 = some (.slice 9) := by kernel_rfl

section
variable {Hd : Type} {enc : TypeId × Value → Hd} {w : World}

theorem rd_fd {n : Nat} (ih : ∀ m, m < n → Rd enc w m 28 Ty.enc Ty.wt) : Rd enc w n 65 Fd.enc Fd.wt := by
  intro cs x h hb
  obtain ⟨xs, m, rfl, rfl, hl, hx⟩ := trod_struct' (l := [(9, 0), (28, 1), (4, 6)]) (by kernel_rfl) h
  simp only [FldsAt, cStr, cTy, cBool] at hx
  obtain ⟨x0, _, rfl, h0, x1, _, rfl, h1, x2, _, rfl, h2, rfl⟩ := hx
  simp only [List.map_cons, List.map_nil, Rows.uptoBulk, Rows.uptoBulkAll] at hb ⊢
  obtain ⟨a0, r0, w0⟩ := rd_str uStr _ _ h0 (by omega)
  obtain ⟨a1, r1, w1⟩ := ih m (by omega) _ _ h1 (by omega)
  obtain ⟨a2, r2, w2⟩ := rd_bool uBool _ _ h2 (by omega)
  refine ⟨.mk a0 a1 a2, ?_, by simp only [Fd.wt]; dsimp only at *; omega⟩
  rw [cFd] at hl
  exact RelL.step (o := 0) r0 (RelL.step r1 (RelL.step r2 (RelL.last (by omega))))

theorem rd_ty : ∀ n : Nat, Rd enc w n 28 Ty.enc Ty.wt := by
  intro n
  induction n using Nat.strongRecOn with
  | _ n ih =>
  intro cs x h hb
  obtain ⟨xs, m, rfl, rfl, hl, hx⟩ := trod_struct' (l := [(3, 0), (9, 1), (9, 2), (25, 3), (26, 4)]) (by kernel_rfl) h
  simp only [FldsAt, cInt, cStr, csTy, csFd] at hx
  obtain ⟨x0, _, rfl, h0, x1, _, rfl, h1, x2, _, rfl, h2, x3, _, rfl, h3, x4, _, rfl, h4, rfl⟩ := hx
  simp only [List.map_cons, List.map_nil, Rows.uptoBulk, Rows.uptoBulkAll] at hb ⊢
  obtain ⟨a0, r0, w0⟩ := rd_int uInt _ _ h0 (by omega)
  obtain ⟨a1, r1, w1⟩ := rd_str uStr _ _ h1 (by omega)
  obtain ⟨a2, r2, w2⟩ := rd_str uStr _ _ h2 (by omega)
  obtain ⟨a3, r3, w3⟩ := rd_slice usTy cTy (by omega) (fun a => a.enc_len) (fun k hk => ih k (by omega)) _ _ h3 (by omega)
  obtain ⟨a4, r4, w4⟩ := rd_slice usFd cFd (by omega) (fun a => a.enc_len) (fun k hk => rd_fd fun j hj => ih j (by omega)) _ _ h4 (by omega)
  refine ⟨.mk a0 a1 a2 a3 a4, ?_, by simp only [Ty.wt, Ty.wtL_eq, Fd.wtL_eq]; dsimp only at *; omega⟩
  rw [cTy] at hl
  simp only [Ty.enc, Ty.encL_eq, Fd.encL_eq]
  exact RelL.step (o := 0) r0 (RelL.step r1 (RelL.step r2 (RelL.step r3 (RelL.step r4 (RelL.last (by omega))))))

theorem rd_pa (n : Nat) : Rd enc w n 53 Pa.enc Pa.wt := by
  intro cs x h hb
  obtain ⟨xs, m, rfl, rfl, hl, hx⟩ := trod_struct' (l := [(9, 0), (3, 1), (28, 2)]) (by kernel_rfl) h
  simp only [FldsAt, cStr, cTy, cInt] at hx
  obtain ⟨x0, _, rfl, h0, x1, _, rfl, h1, x2, _, rfl, h2, rfl⟩ := hx
  simp only [List.map_cons, List.map_nil, Rows.uptoBulk, Rows.uptoBulkAll] at hb ⊢
  obtain ⟨a0, r0, w0⟩ := rd_str uStr _ _ h0 (by omega)
  obtain ⟨a1, r1, w1⟩ := rd_int uInt _ _ h1 (by omega)
  obtain ⟨a2, r2, w2⟩ := rd_ty m _ _ h2 (by omega)
  refine ⟨⟨a0, a1, a2⟩, ?_, by simp only [Pa.wt]; dsimp only at *; omega⟩
  rw [cPa] at hl
  simpa [Pa.enc, sE] using RelL.step (o := 0) r0 (RelL.step r1 (RelL.step r2 (RelL.last (by omega))))

theorem rd_te (n : Nat) : Rd enc w n 51 TE.enc TE.wt := by
  intro cs x h hb
  obtain ⟨xs, m, rfl, rfl, hl, hx⟩ := trod_struct' (l := [(9, 0), (49, 1), (28, 2), (28, 7)]) (by kernel_rfl) h
  simp only [FldsAt, cStr, cTy, csPa] at hx
  obtain ⟨x0, _, rfl, h0, x1, _, rfl, h1, x2, _, rfl, h2, x3, _, rfl, h3, rfl⟩ := hx
  simp only [List.map_cons, List.map_nil, Rows.uptoBulk, Rows.uptoBulkAll] at hb ⊢
  obtain ⟨a0, r0, w0⟩ := rd_str uStr _ _ h0 (by omega)
  obtain ⟨a1, r1, w1⟩ := rd_slice usPa cPa (by omega) (fun a => a.enc_len) (fun k _ => rd_pa k) _ _ h1 (by omega)
  obtain ⟨a2, r2, w2⟩ := rd_ty m _ _ h2 (by omega)
  obtain ⟨a3, r3, w3⟩ := rd_ty m _ _ h3 (by omega)
  refine ⟨⟨a0, a1, a2, a3⟩, ?_, by simp only [TE.wt]; dsimp only at *; omega⟩
  rw [cTE] at hl
  simpa [TE.enc, sE, sl] using RelL.step (o := 0) r0 (RelL.step r1 (RelL.step r2 (RelL.step r3 (RelL.last (by omega)))))

theorem rd_ve (n : Nat) : Rd enc w n 101 VE.enc VE.wt := by
  intro cs x h hb
  obtain ⟨xs, m, rfl, rfl, hl, hx⟩ := trod_struct' (l := [(9, 0), (49, 1), (28, 2)]) (by kernel_rfl) h
  simp only [FldsAt, cStr, cTy, csPa] at hx
  obtain ⟨x0, _, rfl, h0, x1, _, rfl, h1, x2, _, rfl, h2, rfl⟩ := hx
  simp only [List.map_cons, List.map_nil, Rows.uptoBulk, Rows.uptoBulkAll] at hb ⊢
  obtain ⟨a0, r0, w0⟩ := rd_str uStr _ _ h0 (by omega)
  obtain ⟨a1, r1, w1⟩ := rd_slice usPa cPa (by omega) (fun a => a.enc_len) (fun k _ => rd_pa k) _ _ h1 (by omega)
  obtain ⟨a2, r2, w2⟩ := rd_ty m _ _ h2 (by omega)
  refine ⟨⟨a0, a1, a2⟩, ?_, by simp only [VE.wt]; dsimp only at *; omega⟩
  rw [cVE] at hl
  simpa [VE.enc, sE, sl] using RelL.step (o := 0) r0 (RelL.step r1 (RelL.step r2 (RelL.last (by omega))))

theorem rd_ae (n : Nat) : Rd enc w n 106 AE.enc AE.wt := by
  intro cs x h hb
  obtain ⟨xs, m, rfl, rfl, hl, hx⟩ := trod_struct' (l := [(9, 0), (9, 1), (9, 2)]) (by kernel_rfl) h
  simp only [FldsAt, cStr] at hx
  obtain ⟨x0, _, rfl, h0, x1, _, rfl, h1, x2, _, rfl, h2, rfl⟩ := hx
  simp only [List.map_cons, List.map_nil, Rows.uptoBulk, Rows.uptoBulkAll] at hb ⊢
  obtain ⟨a0, r0, w0⟩ := rd_str uStr _ _ h0 (by omega)
  obtain ⟨a1, r1, w1⟩ := rd_str uStr _ _ h1 (by omega)
  obtain ⟨a2, r2, w2⟩ := rd_str uStr _ _ h2 (by omega)
  refine ⟨⟨a0, a1, a2⟩, ?_, by simp only [AE.wt]; dsimp only at *; omega⟩
  rw [cAE] at hl
  simpa [AE.enc, sE] using RelL.step (o := 0) r0 (RelL.step r1 (RelL.step r2 (RelL.last (by omega))))

theorem rd_de (n : Nat) : Rd enc w n 119 DE.enc DE.wt := by
  intro cs x h hb
  obtain ⟨xs, m, rfl, rfl, hl, hx⟩ := trod_struct' (l := [(9, 0), (9, 1)]) (by kernel_rfl) h
  simp only [FldsAt, cStr] at hx
  obtain ⟨x0, _, rfl, h0, x1, _, rfl, h1, rfl⟩ := hx
  simp only [List.map_cons, List.map_nil, Rows.uptoBulk, Rows.uptoBulkAll] at hb ⊢
  obtain ⟨a0, r0, w0⟩ := rd_str uStr _ _ h0 (by omega)
  obtain ⟨a1, r1, w1⟩ := rd_str uStr _ _ h1 (by omega)
  refine ⟨⟨a0, a1⟩, ?_, by simp only [DE.wt]; dsimp only at *; omega⟩
  rw [cDE] at hl
  simpa [DE.enc, sE] using RelL.step (o := 0) r0 (RelL.step r1 (RelL.last (by omega)))

theorem rd_if (n : Nat) : Rd enc w n 40 If.enc If.wt := by
  intro cs x h hb
  obtain ⟨xs, m, rfl, rfl, hl, hx⟩ := trod_struct' (l := [(9, 0), (35, 1), (36, 2), (37, 3), (38, 4)]) (by kernel_rfl) h
  simp only [FldsAt, cStr, csTE, csVE, csAE, csDE] at hx
  obtain ⟨x0, _, rfl, h0, x1, _, rfl, h1, x2, _, rfl, h2, x3, _, rfl, h3, x4, _, rfl, h4, rfl⟩ := hx
  simp only [List.map_cons, List.map_nil, Rows.uptoBulk, Rows.uptoBulkAll] at hb ⊢
  obtain ⟨a0, r0, w0⟩ := rd_str uStr _ _ h0 (by omega)
  obtain ⟨a1, r1, w1⟩ := rd_slice usTE cTE (by omega) TE.enc_len (fun k _ => rd_te k) _ _ h1 (by omega)
  obtain ⟨a2, r2, w2⟩ := rd_slice usVE cVE (by omega) VE.enc_len (fun k _ => rd_ve k) _ _ h2 (by omega)
  obtain ⟨a3, r3, w3⟩ := rd_slice usAE cAE (by omega) AE.enc_len (fun k _ => rd_ae k) _ _ h3 (by omega)
  obtain ⟨a4, r4, w4⟩ := rd_slice usDE cDE (by omega) (fun _ => rfl) (fun k _ => rd_de k) _ _ h4 (by omega)
  refine ⟨⟨a0, a1, a2, a3, a4⟩, ?_, by simp only [If.wt]; dsimp only at *; omega⟩
  rw [cIf] at hl
  simpa [If.enc, sE, sl] using RelL.step (o := 0) r0 (RelL.step r1 (RelL.step r2 (RelL.step r3 (RelL.step r4 (RelL.last (by omega))))))

def Env.wt (e : Env) : Nat := (e.map If.wt).sum + 1
theorem rd_env (n : Nat) : Rd enc w n 23 (fun e : Env => [.sl false (e.map If.enc)]) Env.wt := rd_slice uEnv cIf (by omega) If.enc_len fun k _ => rd_if k
theorem rd_strs (n : Nat) : Rd enc w n 24 (fun l : List Str => [.sl false (l.map sE)]) (fun l => (l.map fun s => s.length + 1).sum + 1) := rd_slice usStr cStr (by omega) sE_len fun k _ => rd_str uStr
end

end Go.Proofs.YthhmioodienlmaaGreatDoor

/- What the bulk bounds: sizes. -/
namespace Go.Proofs.YthhmioodienlmaaGreatDoor
open Go

theorem sum_le_sum {α : Type} {f g : α → Nat} : ∀ {l : List α}, (∀ x ∈ l, f x ≤ g x) → (l.map f).sum ≤ (l.map g).sum
  | [], _ => by simp
  | x :: l, h => by
    have h1 := h x (by simp)
    have h2 := sum_le_sum (l := l) fun y hy => h y (by simp [hy])
    simp only [List.map_cons, List.sum_cons]; omega
theorem len_le_wt {α : Type} {f : α → Nat} {l : List α} (h : ∀ x, 1 ≤ f x) : l.length ≤ (l.map f).sum := by
  have := length_le_sum (l.map f) (fun x hx => by obtain ⟨y, _, rfl⟩ := List.mem_map.1 hx; exact h y)
  simpa using this
theorem wt_mem {α : Type} {f : α → Nat} {l : List α} {x : α} (h : x ∈ l) : f x ≤ (l.map f).sum := sum_mem (List.mem_map_of_mem (f := f) h)

theorem Ty.wt_eq (t : Ty) : t.wt = t.module.length + t.name.length + (t.args.map Ty.wt).sum + (t.fields.map Fd.wt).sum + 6 := by
  cases t; simp only [Ty.wt, Ty.wtL_eq, Fd.wtL_eq, Ty.module, Ty.name, Ty.args, Ty.fields]
theorem Fd.wt_eq (f : Fd) : f.wt = f.name.length + f.type.wt + 3 := by cases f; simp only [Fd.wt, Fd.name, Fd.type]
theorem Ty.wt_parts (t : Ty) : (t.parts.map Ty.wt).sum + 6 ≤ t.wt := by
  rw [Ty.wt_eq, Ty.parts, List.map_append, List.sum_append, List.map_map]
  have := sum_le_sum (f := Ty.wt ∘ Fd.type) (g := Fd.wt) (l := t.fields) fun f _ => by rw [Fd.wt_eq]; simp only [Function.comp]; omega
  omega
theorem Ty.size_wt : ∀ t : Ty, t.size ≤ t.wt := by
  have key : ∀ (n : Nat) (t : Ty), t.size ≤ n → t.size ≤ t.wt := by
    intro n
    induction n with
    | zero => intro t h; have := t.size_pos; omega
    | succ n ih =>
      intro t h
      have h1 := t.wt_parts
      have h2 := sum_le_sum (f := Ty.size) (g := Ty.wt) (l := t.parts) fun p hp => ih p (by have := Ty.part_lt hp; omega)
      rw [Ty.size_eq]; omega
  exact fun t => key t.size t (Nat.le_refl _)
theorem Ty.nodes_wt : ∀ (t u : Ty), u ∈ t.nodes → u.wt ≤ t.wt := by
  have key : ∀ (n : Nat) (t u : Ty), t.size ≤ n → u ∈ t.nodes → u.wt ≤ t.wt := by
    intro n
    induction n with
    | zero => intro t _ h; have := t.size_pos; omega
    | succ n ih =>
      intro t u h hu
      rw [Ty.nodes_eq, List.mem_cons, List.mem_flatMap] at hu
      rcases hu with rfl | ⟨p, hp, hu⟩
      · exact Nat.le_refl _
      · have h1 := ih p u (by have := Ty.part_lt hp; omega) hu
        have h2 := wt_mem (f := Ty.wt) hp
        have h3 := t.wt_parts
        omega
  exact fun t u => key t.size t u (Nat.le_refl _)
theorem Ty.good_of {t : Ty} (h : t.wt ≤ 1048576) : t.good := by
  refine ⟨fun u hu => ?_, by have := t.size_wt; omega⟩
  have h1 := Ty.nodes_wt t u hu
  have h2 := u.wt_eq
  refine ⟨by omega, by omega, fun f hf => ?_⟩
  have h3 := wt_mem (f := Fd.wt) hf
  have h4 := f.wt_eq
  omega

theorem Env.good_of {env : Env} (h : Env.wt env ≤ 1048576) : env.good := by
  have hx : ∀ x ∈ env, x.wt ≤ 1048576 := fun x hx => by have := wt_mem (f := If.wt) hx; unfold Env.wt at h; omega
  have ht : ∀ x ∈ env, ∀ y ∈ x.types, y.wt ≤ 1048576 := fun x h1 y h2 => by have := hx x h1; have h3 := wt_mem (f := TE.wt) h2; unfold If.wt at this; omega
  have hv : ∀ x ∈ env, ∀ y ∈ x.values, y.wt ≤ 1048576 := fun x h1 y h2 => by have := hx x h1; have h3 := wt_mem (f := VE.wt) h2; unfold If.wt at this; omega
  refine ⟨?_, ?_, ?_, ?_, ?_, ?_, ?_, ?_, ?_, ?_, ?_⟩
  · have := len_le_wt (f := If.wt) (l := env) (fun x => by unfold If.wt; omega); unfold Env.wt at h; omega
  · intro x h1; have := hx x h1; have h2 := len_le_wt (f := TE.wt) (l := x.types) (fun x => by unfold TE.wt; omega); unfold If.wt at this; omega
  · intro x h1; have := hx x h1; have h2 := len_le_wt (f := VE.wt) (l := x.values) (fun x => by unfold VE.wt; omega); unfold If.wt at this; omega
  · intro x h1; have := hx x h1; have h2 := len_le_wt (f := AE.wt) (l := x.aliases) (fun x => by unfold AE.wt; omega); unfold If.wt at this; omega
  · intro x h1; have := hx x h1; have h2 := len_le_wt (f := DE.wt) (l := x.depr) (fun x => by unfold DE.wt; omega); unfold If.wt at this; omega
  · intro x h1 y h2; have := ht x h1 y h2; have h3 := len_le_wt (f := Pa.wt) (l := y.params) (fun x => by unfold Pa.wt; omega); unfold TE.wt at this; omega
  · intro x h1 y h2; have := hv x h1 y h2; have h3 := len_le_wt (f := Pa.wt) (l := y.params) (fun x => by unfold Pa.wt; omega); unfold VE.wt at this; omega
  · intro x h1 y h2; have := ht x h1 y h2; unfold TE.wt at this; exact ⟨Ty.good_of (by omega), Ty.good_of (by omega)⟩
  · intro x h1 y h2 p hp; have := ht x h1 y h2; have h3 := wt_mem (f := Pa.wt) hp; unfold TE.wt at this; unfold Pa.wt at h3 this; exact Ty.good_of (by omega)
  · intro x h1 y h2; have := hv x h1 y h2; unfold VE.wt at this; exact Ty.good_of (by omega)
  · intro x h1 y h2 p hp; have := hv x h1 y h2; have h3 := wt_mem (f := Pa.wt) hp; unfold VE.wt at this; unfold Pa.wt at h3 this; exact Ty.good_of (by omega)

theorem pars_wt (l : List Pa) : ((l.map Pa.bound).map Ty.size).sum ≤ (l.map Pa.wt).sum := by
  rw [List.map_map]
  exact sum_le_sum fun p _ => by have := p.bound.size_wt; simp only [Function.comp, Pa.wt]; omega
theorem sum_flatMap {α β : Type} {f : α → List β} {g : β → Nat} : ∀ l : List α, ((l.flatMap f).map g).sum = (l.map fun x => ((f x).map g).sum).sum
  | [] => rfl
  | x :: l => by simp only [List.flatMap_cons, List.map_append, List.sum_append, List.map_cons, List.sum_cons, sum_flatMap l]
theorem ifSize_wt (x : If) : ifSize x + 1 ≤ x.wt := by
  unfold ifSize ifTypes If.wt
  rw [List.map_append, List.sum_append, sum_flatMap, sum_flatMap]
  have h1 := sum_le_sum (f := fun x => ((teTypes x).map Ty.size).sum) (g := TE.wt) (l := x.types) fun y _ => by
    have := pars_wt y.params; have h2 := y.lower.size_wt; have h3 := y.upper.size_wt
    simp only [teTypes, List.map_cons, List.sum_cons, TE.wt]; omega
  have h2 := sum_le_sum (f := fun x => ((veTypes x).map Ty.size).sum) (g := VE.wt) (l := x.values) fun y _ => by
    have := pars_wt y.params; have h2 := y.type.size_wt
    simp only [veTypes, List.map_cons, List.sum_cons, VE.wt]; omega
  have h3 := len_le_wt (f := AE.wt) (l := x.aliases) (fun x => by unfold AE.wt; omega)
  have h4 := len_le_wt (f := DE.wt) (l := x.depr) (fun x => by unfold DE.wt; omega)
  omega
theorem envSize_wt (env : Env) : envSize env ≤ Env.wt env := by
  unfold envSize Env.wt
  have : ∀ l : List If, l.length + (l.map ifSize).sum ≤ (l.map If.wt).sum := by
    intro l
    induction l with
    | nil => simp
    | cons x l ih => have := ifSize_wt x; simp only [List.length_cons, List.map_cons, List.sum_cons]; omega
  have := this env
  omega

end Go.Proofs.YthhmioodienlmaaGreatDoor

/- The world of the witness; what the form asks behind a call that turns nothing that was there. -/
namespace Go.Proofs.YthhmioodienlmaaGreatDoor
open Go Go.ChangeShapes Go.WideShapes Go.ChangeAt Go.RowKit

section
variable {H : Type} {enc : TypeId × Value → H} {P : Program}

theorem keptBut_of_same {W W' : World} (hs : ∀ b, b < W.heap.size → W'.heap[b]? = W.heap[b]?) (ho : W'.os = W.os) (hout : W'.output = W.output) (may : MemPlace → Prop) : W.keptBut W' may := by
  refine ⟨ho, hout, fun i hi => ?_⟩
  rw [hs i hi]
  generalize W.heap[i]? = o
  cases o with
  | none => rfl
  | some o => cases o <;> first | exact ⟨rfl, rfl, rfl, fun _ _ => rfl⟩ | exact .inr ⟨rfl, rfl⟩ | rfl

theorem same_cell {W W' : World} {a : Addr} (h : W'.heap[a.block]? = W.heap[a.block]?) : W'.cell? a = W.cell? a := by unfold World.cell?; rw [h]
theorem same_frozen {W W' : World} {a : Addr} (h : W'.heap[a.block]? = W.heap[a.block]?) : W'.frozen? a = W.frozen? a := by unfold World.frozen?; rw [h]
theorem sameAt_of {W W' : World} {p : MemPlace} (h : W'.heap[p.block]? = W.heap[p.block]?) : W.sameAt W' p := by
  cases p
  · exact same_cell h
  · exact h

theorem trodAll_carry {w w' : World} {base : Nat} {spare : Nat → Bool} {held : Bool} : ∀ {ts : List TypeId} {vs : List Value} {ds : List (DataW H)} {ps : List MemPlace}, DataW.TrodAll enc P w base spare held ts vs ds ps → (∀ p ∈ ps, w.sameAt w' p) →
    DataW.TrodAll enc P w' base spare held ts vs ds ps
  | [], [], [], _, h, _ => h
  | _ :: _, _ :: _, _ :: _, _, ⟨p, q, ⟨n, hn⟩, h2, e⟩, hs => ⟨p, q, ⟨n, DataW.trod_carry n _ _ _ hn (fun x hx => hs x (by rw [e]; exact List.mem_append_left _ hx))⟩,
      trodAll_carry h2 (fun x hx => hs x (by rw [e]; exact List.mem_append_right _ hx)), e⟩

/-- behind a call that turned no block that was there -/
theorem post_same {f : Func} {s : ChangeSpec} {apart fresh handsOn again : Bool} {W W' : World} {args : Array Value} {v : Value} {ds gs : List (DataW H)} {before pa pv : List MemPlace}
    (hW : DataW.Whole enc P f.params.toList s.vars apart W args.toList ds gs before)
    (hres : ∀ (b : Nat) (sp : Nat → Bool) (hd : Bool), DataW.TrodAll enc P W' b sp hd f.resultTypes.toList (v.resultList f.resultTypes.size) (s.fn H (ds ++ gs)).results [])
    (hargs : ∀ sp : Nat → Bool, (∀ p ∈ before, sp p.block = true) → DataW.TrodAll enc P W' 0 sp true f.params.toList args.toList (s.fn H (ds ++ gs)).args pa)
    (hvars : ∀ sp : Nat → Bool, (∀ p ∈ before, sp p.block = true) → DataW.TrodVars enc P W' sp s.vars (s.fn H (ds ++ gs)).vars pv)
    (hps : before = pa ++ pv) (hs : ∀ b, b < W.heap.size → W'.heap[b]? = W.heap[b]?) (ho : W'.os = W.os) (hout : W'.output = W.output)
    (hok : ∀ (j : Nat) (t : TypeId) (r : Value), f.resultTypes[j]? = some t → (v.resultList f.resultTypes.size)[j]? = some r → Value.okWide P W' .any 0 t r) :
    s.post enc P f apart fresh handsOn again W args v W' := by
  have hold : ∀ p ∈ before, (fun b => decide (b < W.heap.size)) p.block = true := fun p hp => by simpa using hW.lt p hp
  refine ⟨ds, gs, before, [], pa, pv, hW, hres _ _ _, hargs _ hold, hvars _ hold, keptBut_of_same hs ho hout _, fun _ => ?_⟩
  have hlt := hW.lt
  obtain ⟨_, _, _, _, _, hz, hn⟩ := hW
  refine ⟨hok, _, _, ([] ++ pa) ++ pv, ⟨[] ++ pa, pv, trodAll_append (hargs _ (fun _ _ => rfl)) (hres _ _ _), hvars _ (fun _ _ => rfl), rfl, ?_, ?_⟩, ?_⟩
  · intro b off hp
    have hb : (MemPlace.cell b off) ∈ before := by rw [hps]; simpa using hp
    rw [same_frozen (W := W) (a := ⟨b, off, none⟩) (hs b (hlt _ hb))]
    exact hz b off hb
  · intro ha
    have := hn ha
    rw [hps] at this
    simpa using this
  · intro p hp _
    rw [hps]
    simpa using hp
end

/-! ### the witness's world -/
mutual
def dataCells : DataW Unit → List Value
  | .lit (.int k n) => [.int k n]
  | .agg ps => dataCellsL ps
  | _ => []
def dataCellsL : List (DataW Unit) → List Value
  | [] => []
  | d :: l => dataCells d ++ dataCellsL l
end
def layCells (d : DataW Unit) (h : Array Obj) (g : Nat) : Array Obj := h.modify g fun
  | .cells _ t frozen => .cells (dataCells d).toArray t frozen
  | o => o
noncomputable def laidHeap (h : Array Obj) : Array Obj :=
  layCells Rows.laid_internal_strconv_uint64pow10 (layCells Rows.laid_unicode_utf8_first (layCells Rows.laid_unicode_utf8_acceptRanges (layCells Rows.laid_math_bits_deBruijn32tab (layCells Rows.laid_math_bits_deBruijn64tab h
    5) 4) 3) 2) 1
noncomputable def laidWorld (os : Os) : World := { World.holding Tryz.prog os ⟨#[], #[], []⟩ with heap := laidHeap (World.holding Tryz.prog os ⟨#[], #[], []⟩).heap }

theorem own : ownKnob Tryz.prog.godebug = none := by kernel_rfl
theorem kids : Kids Tryz.prog (· < Tryz.prog.types.size) := kids_rows (by kernel_rfl) (by kernel_rfl)
theorem full : ∀ t e, t < Tryz.prog.types.size → Tryz.prog.underlying t = some (.slice e) → 0 < Tryz.prog.cellsOf e := slices_full_of Tryz.prog (by kernel_rfl)

/-- the one package variable that is read -/
theorem globOk {W : World} (h : W.ShapedOpen Tryz.prog) : GlobOk (kOf W) :=
  Go.Proofs.cell_of_shapedOpen_int (zero := #[.int .i64 0]) (t := 3) h (of_decide_eq_true (by kernel_rfl)) (by kernel_rfl) rfl (by kernel_rfl) (by kernel_rfl) uInt

theorem inv_of {W : World} (h : W.ShapedOpen Tryz.prog) : Inv [] (kOf W) W [] where
  agree := fun _ _ _ h => h
  glob := globOk h
  len := rfl
  obj := fun i o g h _ => by simp at h
  apart := fun i j gi gj b h => by simp at h
  walks := fun i m ck es todo cur it snap ck' es' b bs h => by simp at h

end Go.Proofs.YthhmioodienlmaaGreatDoor
