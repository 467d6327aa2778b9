/- The abstract machine, part 16: code, and that walks through it are sound. -/
import Derived.Test.YthhmioodienlmaaGreatDoorKD
set_option linter.unusedSimpArgs false
set_option linter.unusedVariables false
namespace Go.Proofs.YthhmioodienlmaaGreatDoor
open Go

variable {P : Program} {G : List GI} {T : Tips} {K : Kmem} {w : World} {H H' : List HO}

abbrev AQ := Exit → List AV → List HO → Prop

def athen (next : List AV → List HO → Prop) (Q : AQ) : AQ := fun e ts H => match e with | .normal => next ts H | e => Q e ts H
def ablk (id : Nat) (Q : AQ) : AQ := fun e ts H => match e with | .exit i => if i = id then Q .normal ts H else Q (.exit i) ts H | e => Q e ts H

def aWant (ops : Array Oper) (o : Oper) (ts : List AV) (yes no : Prop) : Prop :=
  match o.guard with
  | none => yes
  | some (j, want) => match (ops[j]?).bind (·.dst) with
    | none => no
    | some d => match ts[d]? with
      | some (.d (.bool b)) => (b = want → yes) ∧ (b ≠ want → no)
      | some (.tup []) => no
      | none => no
      | _ => False

def aOps (P : Program) (m : Bool) (ops : Array Oper) (Q : AQ) : List Nat → List AV → List HO → Prop
  | [], ts, H => Q .normal ts H
  | i :: rest, ts, H => match ops[i]? with
    | none => aOps P m ops Q rest ts H
    | some o => aWant ops o ts (aOp P m o.op ts H fun v H' => aOps P m ops Q rest (aput o.dst v ts) H') (aOps P m ops Q rest (aput o.dst (.tup []) ts) H)

/-- in the order of the text -/
def aRun (P : Program) (m : Bool) (ops : Array Oper) (Q : AQ) : List Oper → List AV → List HO → Prop
  | [], ts, H => Q .normal ts H
  | o :: rest, ts, H => aWant ops o ts (aOp P m o.op ts H fun v H' => aRun P m ops Q rest (aput o.dst v ts) H') (aRun P m ops Q rest (aput o.dst (.tup []) ts) H)

theorem aWant_mono {ops : Array Oper} {o : Oper} {ts : List AV} {yes no yes' no' : Prop} (h : aWant ops o ts yes no) (hy : yes → yes') (hn : no → no') : aWant ops o ts yes' no' := by
  unfold aWant at h ⊢
  split
  · simp_all
  · rename_i j want hg
    rw [hg] at h
    simp only at h
    cases hd : (ops[j]?).bind (·.dst) with
    | none => rw [hd] at h; exact hn h
    | some d =>
      rw [hd] at h
      simp only at h ⊢
      split at h
      · exact ⟨fun e => hy (h.1 e), fun e => hn (h.2 e)⟩
      · exact hn h
      · exact hn h
      · exact h.elim

theorem res_mono {r : Res} {K K' : AV → List HO → Prop} (h : res r K) (hk : ∀ v H, K v H → K' v H) : res r K' := by
  unfold res at h ⊢
  split at h
  · exact hk _ _ h
  · exact h

theorem resv_mono {r : Option AV} {K K' : AV → List HO → Prop} (h : resv r H K) (hk : ∀ v H, K v H → K' v H) : resv r H K' := by
  unfold resv at h ⊢
  split at h
  · exact hk _ _ h
  · exact h

theorem obnd_mono {α : Type} {x : Option α} {k k' : α → Prop} (h : obnd x k) (hk : ∀ a, k a → k' a) : obnd x k' := by
  unfold obnd at h ⊢
  split at h
  · exact hk _ h
  · exact h

theorem aAppend_mono {m : Bool} {te : Option TInf} {a b : AV} {K K' : AV → List HO → Prop} (h : aAppend m te a b H K) (hk : ∀ v H, K v H → K' v H) : aAppend m te a b H K' := by
  unfold aAppend at h ⊢
  split at h
  · refine ⟨h.1, h.2.1, ?_⟩
    have h := h.2.2
    split at h
    · refine ⟨h.1, h.2.1, ?_⟩
      have h := h.2.2
      by_cases hm : m = true
      · rw [if_pos hm] at h ⊢
        split at h
        · rename_i hx; rw [if_pos hx]; exact ⟨h.1, hk _ _ h.2⟩
        · rename_i hx; rw [if_neg hx]; exact hk _ _ h
      · rw [if_neg hm] at h ⊢
        rcases h with h | ⟨h1, h2, h⟩
        · exact .inl (hk _ _ h)
        · exact .inr ⟨h1, h2, hk _ _ h⟩
    · exact ⟨h.1, h.2.1, hk _ _ h.2.2⟩
    · obtain ⟨es, h1, h2, h3⟩ := h
      exact ⟨es, h1, h2, hk _ _ h3⟩
    · obtain ⟨es, h1, h2, h3, h4, es', h5, h6, h7⟩ := h
      exact ⟨es, h1, h2, h3, h4, es', h5, h6, hk _ _ h7⟩
    · exact h
  · exact h

theorem slNil_mono {op : BinOp} {a : AV} {y : Operand} {K K' : AV → List HO → Prop} (h : slNil op a y H K) (hk : ∀ v H, K v H → K' v H) : slNil op a y H K' := by
  unfold slNil at h ⊢
  split at h
  · exact fun b hb => hk _ _ (h b hb)
  · exact fun b hb => hk _ _ (h b hb)
  · exact h

theorem aNext_mono {it : AV} {K K' : AV → List HO → Prop} (h : aNext it H K) (hk : ∀ v H, K v H → K' v H) : aNext it H K' := by
  unfold aNext at h ⊢
  split at h
  · split at h
    · exact ⟨h.1, h.2.1, fun e => hk _ _ (h.2.2.1 e), fun a k v b e => hk _ _ (h.2.2.2 a k v b e)⟩
    · exact h.elim
  · exact h.elim

theorem aEntry_mono {it : AV} {K K' : AV → List HO → Prop} (h : aEntry it H K) (hk : ∀ v H, K v H → K' v H) : aEntry it H K' := by
  unfold aEntry at h ⊢
  split at h
  · split at h
    · exact ⟨h.1, h.2.1, hk _ _ h.2.2⟩
    · exact h.elim
  · exact h.elim

theorem aOp_mono {m : Bool} {o : Op} {ts : List AV} {K K' : AV → List HO → Prop} (h : aOp P m o ts H K) (hk : ∀ v H, K v H → K' v H) : aOp P m o ts H K' := by
  cases o <;> simp only [aOp] at h ⊢
  case move => exact hk _ _ h
  case assign => exact hk _ _ h
  case makeFunc => exact hk _ _ h
  case binOp op t x y _ =>
    split
    · rename_i e; rw [e] at h; exact slNil_mono h hk
    · rename_i e
      split at h
      · rename_i e'; exact absurd e' e
      · exact res_mono h hk
  case call c =>
    obtain ⟨callee, args, ats⟩ := c
    unfold aCall at h ⊢
    cases callee with
    | value f =>
      simp only at h ⊢
      split at h
      · exact ACalls.mono h hk
      · exact AYield.mono h hk
      · exact h
    | builtin b =>
      simp only at h ⊢
      unfold aBuiltin at h ⊢
      split at h
      · exact res_mono h hk
      · exact obnd_mono h fun _ h => ⟨h.1, h.2.1, aAppend_mono h.2.2 hk⟩
      · exact resv_mono h hk
      · exact resv_mono h hk
      · exact obnd_mono h fun _ h => ⟨h.1, res_mono h.2 hk⟩
      · exact h
    | invoke _ _ => exact h
  case makeMap t r =>
    cases r with
    | none => exact res_mono h hk
    | some _ => exact h
  case next it s =>
    cases s with
    | true => exact h
    | false => exact aNext_mono h hk
  case entry it => exact aEntry_mono h hk
  all_goals first
    | exact h
    | exact res_mono h hk
    | exact resv_mono h hk
    | exact obnd_mono h fun _ h => res_mono h hk
    | exact obnd_mono h fun _ h => ⟨h.1, res_mono h.2 hk⟩

theorem aRun_aOps {m : Bool} {ops : Array Oper} {Q : AQ} : ∀ (l : List Oper) (k : Nat) {ts : List AV} {H : List HO}, ops.toList.drop k = l → aRun P m ops Q l ts H → aOps P m ops Q (List.range' k l.length) ts H
  | [], k, ts, H, _, h => by simpa only [List.length_nil, List.range'_zero, aOps, aRun] using h
  | o :: rest, k, ts, H, he, h => by
    simp only [List.length_cons, List.range'_succ, aOps]
    have ho : ops[k]? = some o := by
      rw [← Array.getElem?_toList]
      have := congrArg (·[0]?) he
      simpa using this
    have hr : ops.toList.drop (k + 1) = rest := by
      have := congrArg List.tail he
      simpa using this
    rw [ho]
    simp only [aRun] at h ⊢
    exact aWant_mono h (fun h => aOp_mono h fun v H' h => aRun_aOps rest (k + 1) hr h) (fun h => aRun_aOps rest (k + 1) hr h)

/-- the arguments of a round -/
def aputs : List Tmp → List AV → List AV → List AV
  | p :: ps, v :: vs, ts => aputs ps vs (ts.set p v)
  | _, _, ts => ts

/-- behind the iterator -/
def aLeft (id : Nat) (ts : List AV) (ps : Array Tmp) (a c : Code) (Q : AQ) (H : List HO) : Prop :=
  ∃ st j lts, H[id]? = some (.loop st j lts ps a c) ∧ st ≠ .busy ∧ match j with
    | none => Q .normal ts (H.set id (.loop .exhausted j lts ps a c))
    | some .ret => Q .ret ts (H.set id (.loop .exhausted j lts ps a c))
    | some (.exit i) => Q (.exit i) ts (H.set id (.loop .exhausted j lts ps a c))
    | _ => False

/-- a loop over a function -/
def aRange (P : Program) (g : AV) (ts : List AV) (ps : Array Tmp) (a c : Code) (Q : AQ) (H : List HO) : Prop :=
  match g with
  | .fn (.func gf) [] capt => ACalls P gf (.iter H.length :: capt) (H ++ [.loop .ready none ts ps a c]) fun _ H2 => aLeft H.length ts ps a c Q H2
  | _ => False

def awp (P : Program) (m : Bool) (N : Nat) : Code → AQ → List AV → List HO → Prop
  | .skip, Q, ts, H => Q .normal ts H
  | .label _, Q, ts, H => Q .normal ts H
  | .region _ ops d, Q, ts, H => match d with
    | false => aRun P m ops Q ops.toList ts H
    | true => ∀ t, aOps P m ops Q (Region.schedule (P.follows .mixedOrders) ops t) ts H
  | .seq a b, Q, ts, H => awp P m N a (athen (awp P m N b Q) Q) ts H
  | .cond c x y, Q, ts, H => abr (aev ts c) (awp P m N x Q ts H) (awp P m N y Q ts H)
  | .block id c, Q, ts, H => awp P m N c (ablk id Q) ts H
  | .loop c, Q, ts, H => ∀ I : List AV → List HO → Prop, (∀ ts H ts' H', Weak N ts H ts' H' → awp P m N c (athen I Q) ts' H' → I ts H) → I ts H
  | .exit id, Q, ts, H => Q (.exit id) ts H
  | .ret, Q, ts, H => Q .ret ts H
  | .rangeFunc g ps a c, Q, ts, H => aRange P (aev ts g) ts ps a c Q H
  | _, _, _, _ => False

/-! ### soundness -/
def okExit : Exit → Prop
  | .normal | .exit _ | .ret => True
  | _ => False

/-- the deferred calls are marks of loops over functions, whose blocks lie apart, are empty, and came in since the heap had B blocks -/
def Marks (B : Nat) (G : List GI) (w : World) : List Deferred → Prop
  | [] => B ≤ w.heap.size
  | d :: ds => (∃ r, d.target = .collected r ∧ B ≤ r ∧ w.heap[r]? = some (.deferred (some [])) ∧ ¬ inB G r ∧ ∀ d' ∈ ds, d'.target ≠ .collected r) ∧ Marks B G w ds

theorem Marks.size {B : Nat} : ∀ {ds : List Deferred}, Marks B G w ds → B ≤ w.heap.size
  | [], h => h
  | _ :: _, h => Marks.size h.2

theorem Marks.post {N B : Nat} {G' : List GI} {T' : Tips} {K' : Kmem} {w' : World} (hp : Post N G T K w G' T' K' w') : ∀ {ds : List Deferred}, Marks B G w ds → Marks B G' w' ds
  | [], h => Nat.le_trans h hp.size
  | d :: ds, ⟨⟨r, h1, h0, h2, h3, h4⟩, h⟩ => by
    have hr : r < w.heap.size := (Array.getElem?_eq_some_iff.1 h2).1
    refine ⟨⟨r, h1, h0, by rw [hp.same r hr h3, h2], fun hb => ?_, h4⟩, Marks.post hp h⟩
    rcases hp.gnew r hb with h5 | h5
    · exact h3 h5
    · omega

/-- a block comes in that is no object's -/
theorem Inv.grow (hI : Inv G K w H) {w' : World} {o : Obj} (hw : w'.heap = w.heap.push o) (ho : Out w w') : Inv G K w' H ∧ Post G.length G (tipsOf H) K w G (tipsOf H) K w' :=
  ⟨⟨fun b o v hk => by rw [cell_same (heap_push_lt hw (hI.k_lt hk))]; exact hI.agree b o v hk, hI.glob, hI.len,
    fun i x g h1 h2 => (hI.obj i x g h1 h2).conv (fun b hb => heap_push_lt hw (hI.lt_of_block ⟨i, g, h2, hb⟩)) (fun _ _ _ h => h) (fun _ _ h => h) (fun _ b bs h => ⟨bs, h⟩), hI.apart, hI.walks⟩,
   ⟨Nat.le_refl _, Evo.refl _ _ _, Kle.refl _, (fun b o v h1 h2 => by rw [h1] at h2; cases h2), fun b h => .inl h, by rw [hw]; simp, fun b hb _ => heap_push_lt hw hb, ho.os, ho.out, ho.tape⟩⟩

/-- a block that is no object's, and that no known cell lies in, is written -/
theorem Inv.other (hI : Inv G K w H) {r : Nat} {o o' : Obj} (h : w.heap[r]? = some o) (hc : o.isCells = false) (hr : ¬ inB G r) : Inv G K (w.putObj r o') H := by
  have hne : ∀ b, b ≠ r → (w.putObj r o').heap[b]? = w.heap[b]? := fun b hb => World.putObj_heap_other hb
  refine ⟨fun b p v hk => ?_, hI.glob, hI.len, fun i x g h1 h2 => (hI.obj i x g h1 h2).conv (fun b hb => hne b fun e => hr (by subst e; exact ⟨i, g, h2, hb⟩)) (fun _ _ _ h => h) (fun _ _ h => h) (fun _ b bs h => ⟨bs, h⟩), hI.apart, hI.walks⟩
  have hb : b ≠ r := fun e => by
    subst e
    have := hI.agree _ _ _ hk
    unfold World.cell? at this
    cases o <;> simp [h, Obj.isCells] at this hc
  rw [cell_same (hne b hb)]; exact hI.agree _ _ _ hk

/-- the round that is walked has its record among the objects that stay -/
def RoundOk (F : Fence) (N : Nat) (G : List GI) : Prop := ∀ l, F.round = some l → ∃ id, id < N ∧ ∃ f ts ps a c d, G[id]? = some (.loop l f ts ps a c d)

theorem RoundOk.post {F : Fence} {N : Nat} {G' : List GI} {T' : Tips} {K' : Kmem} {w' : World} (hp : Post N G T K w G' T' K' w') (h : RoundOk F N G) : RoundOk F N G' := fun l hl => by
  obtain ⟨id, hi, f, ts, ps, a, c, d, hg⟩ := h l hl
  obtain ⟨g', hg', he⟩ := hp.evo id hi _ hg
  simp only [evo1] at he
  subst he
  exact ⟨id, hi, f, ts, ps, a, c, d, hg'⟩

/-- what is known at an exit, since the start (G, K, w) -/
def Since (B N : Nat) (G : List GI) (T : Tips) (K : Kmem) (w : World) (n : Nat) (Q : AQ) : Exit → Act → World → Prop := fun e a w' =>
  okExit e ∧ a.tmps.size = n ∧ ∃ ts' G' K' H', Q e ts' H' ∧ RelAs G' (tipsOf H') K' ts' a.tmps.toList ∧ Inv G' K' w' H' ∧ Post N G T K w G' (tipsOf H') K' w' ∧ Marks B G' w' a.defers

theorem Since.from {B N : Nat} {G1 : List GI} {T T1 : Tips} {K1 : Kmem} {w1 : World} {n : Nat} {Q : AQ} {e : Exit} {a : Act} {w' : World} (hp : Post N G T K w G1 T1 K1 w1)
    (h : Since B N G1 T1 K1 w1 n Q e a w') : Since B N G T K w n Q e a w' := by
  obtain ⟨h0, h2, ts', G', K', H', h3, h4, h5, h6, h7⟩ := h
  exact ⟨h0, h2, ts', G', K', H', h3, h4, h5, hp.trans h6, h7⟩

theorem put_rel {ts : List AV} {a : Act} {x : AV} {v : Value} (h : RelAs G T K ts a.tmps.toList) (hx : RelA G T K x v) (dst : Option Tmp) : RelAs G T K (aput dst x ts) (a.put dst v).tmps.toList := by
  cases dst with
  | none => exact h
  | some d =>
    simp only [aput, Act.put]
    have := h.set d hx
    rwa [Array.toList_setIfInBounds]

theorem put_size {a : Act} {v : Value} (dst : Option Tmp) : (a.put dst v).tmps.size = a.tmps.size := by cases dst <;> simp [Act.put]
theorem put_defers {a : Act} {v : Value} (dst : Option Tmp) : (a.put dst v).defers = a.defers := by cases dst <;> simp [Act.put]

theorem aWant_sound {ops : Array Oper} {o : Oper} {ts : List AV} {a : Act} {yes no : Prop} (h : RelAs G T K ts a.tmps.toList) (hw : aWant ops o ts yes no) :
    (Region.wanted o (yielded ops a.tmps) = true → yes) ∧ (Region.wanted o (yielded ops a.tmps) = false → no) := by
  unfold aWant at hw
  unfold Region.wanted
  cases hg : o.guard with
  | none => rw [hg] at hw; exact ⟨fun _ => hw, fun h => by simp at h⟩
  | some x =>
    obtain ⟨j, want⟩ := x
    rw [hg] at hw
    simp only at hw ⊢
    unfold yielded
    cases hd : (ops[j]?).bind (·.dst) with
    | none => rw [hd] at hw; exact ⟨fun h => by simp at h, fun _ => hw⟩
    | some d =>
      rw [hd] at hw
      simp only [Option.bind_some] at hw ⊢
      cases ht : ts[d]? with
      | none =>
        rw [ht] at hw
        have hl := h.length
        have : a.tmps[d]? = none := by
          rw [← Array.getElem?_toList]
          apply List.getElem?_eq_none
          rw [← hl]; exact List.getElem?_eq_none_iff.1 ht
        rw [this]
        exact ⟨fun h => by simp at h, fun _ => hw⟩
      | some v =>
        rw [ht] at hw
        obtain ⟨y, h1, h2⟩ := h.get ht
        rw [Array.getElem?_toList] at h1
        rw [h1]
        split at hw
        · rename_i b e; cases e
          simp only [RelA, RelD] at h2
          subst h2
          simp only [beq_iff_eq, Option.some.injEq, beq_eq_false_iff_ne, ne_eq]
          exact ⟨hw.1, fun h => hw.2 h⟩
        · rename_i e; cases e
          simp only [RelA, RelAs] at h2
          obtain ⟨vs, rfl, h2⟩ := h2
          exact ⟨fun h => by simp at h, fun _ => hw⟩
        · rename_i e; cases e
        · exact hw.elim

/-- the fences of the walks: the wide one, or a round's in it -/
def OkF (F : Fence) : Prop := F = Fence.wide ∨ ∃ l, F = Fence.wide.inRound l

theorem OkF.fn {F : Fence} (h : OkF F) (f : FuncId) : F.fn f := by
  rcases h with rfl | ⟨l, rfl⟩ <;> trivial
theorem OkF.depth {F : Fence} (h : OkF F) : F.depth = none := by
  rcases h with rfl | ⟨l, rfl⟩ <;> rfl
theorem OkF.calls {F : Fence} (h : OkF F) {n : Nat} {f : FuncId} {args : Array Value} {w : World} {R : Ending → World → Prop} (hc : Calls P f args w R) : CallsIn F n P f args w R := by
  rcases h with rfl | ⟨l, rfl⟩
  · exact callsIn_wide.2 hc
  · exact CallsIn.inRound l (callsIn_wide.2 hc)

theorem OkF.rounds {F : Fence} (h : OkF F) {n : Nat} {l : Nat} {f : FuncId} {tmps : Array Value} {a c : Code} {w : World} {R : Ending → World → Prop} (hr : RoundIn Fence.wide 0 P l f tmps a c w R) : RoundIn F n P l f tmps a c w R := by
  rcases h with rfl | ⟨l', rfl⟩
  · exact ⟨trivial, fun k cs _ => hr.2 k cs (room_wide _)⟩
  · exact ⟨trivial, fun k cs _ => hr.2 k cs (room_wide _)⟩

theorem aOp_notDefer {m : Bool} {o : Op} {ts : List AV} {R : AV → List HO → Prop} (h : aOp P m o ts H R) : ∀ c, o ≠ .defer c := by
  intro c e; subst e; exact h

theorem LetsOut.mono {Q Q' : Exit → Act → World → Prop} (h : ∀ e a w, Q e a w → Q' e a w) (hl : LetsOut Q) : LetsOut Q' := by
  obtain ⟨a, w, hq⟩ := hl; exact ⟨a, w, h _ _ _ hq⟩

theorem wpOps_mono {F : Fence} {n : Nat} {ops : Array Oper} {Q Q' : Exit → Act → World → Prop} (h : ∀ e a w, Q e a w → Q' e a w) : ∀ (l : List Nat) (a : Act) (w : World), wpOpsIn F n P ops Q l a w → wpOpsIn F n P ops Q' l a w
  | [], a, w, hw => by simp only [wpOpsIn] at hw ⊢; exact h _ _ _ hw
  | i :: rest, a, w, hw => by
    simp only [wpOpsIn] at hw ⊢
    cases ho : ops[i]? with
    | none => rw [ho] at hw; exact wpOps_mono h rest a w hw
    | some o =>
      rw [ho] at hw
      simp only at hw ⊢
      split
      · rename_i hc
        rw [if_pos hc] at hw
        refine ⟨hw.1, ?_⟩
        have hw := hw.2
        generalize (o.semAt F.round a.eval).run P w = r at hw ⊢
        cases r with
        | ok x w' =>
          cases x <;> simp only [Oper.uponIn] at hw ⊢ <;>
            first
              | exact wpOps_mono h rest _ _ hw
              | exact ⟨hw.1, CallsIn.mono hw.2 (fun e w'' he => by cases e <;> first | exact wpOps_mono h rest _ _ he | exact h _ _ _ he | exact LetsOut.mono h he)⟩
              | exact ⟨hw.1, RowsIn.mono hw.2 (fun _ _ he => wpOps_mono h rest _ _ he)⟩
              | exact ⟨hw.1, RoundIn.mono hw.2 (fun e w'' he => by cases e <;> first | exact wpOps_mono h rest _ _ he | exact h _ _ _ he | exact LetsOut.mono h he)⟩
        | halt x w' => cases x <;> simp only [Oper.uponIn] at hw ⊢ <;> first | exact h _ _ _ hw | exact hw
      · rename_i hc
        rw [if_neg hc] at hw
        exact ⟨hw.1, wpOps_mono h rest _ _ hw.2⟩

theorem aOps_sound {F : Fence} (hF : OkF F) {n : Nat} {m : Bool} {B N : Nat} {ops : Array Oper} {Q : AQ} {nt : Nat} : ∀ (l : List Nat) {G : List GI} {K : Kmem} {w : World} {H : List HO} {ts : List AV} {a : Act},
    aOps P m ops Q l ts H → Inv G K w H → RelAs G (tipsOf H) K ts a.tmps.toList → N ≤ G.length → Marks B G w a.defers → a.tmps.size = nt → wpOpsIn F n P ops (Since B N G (tipsOf H) K w nt Q) l a w
  | [], G, K, w, H, ts, a, h, hI, hr, hN, hd, hn => by
    simp only [aOps] at h
    simp only [wpOpsIn]
    exact ⟨trivial, hn, ts, G, K, H, h, hr, hI, Post.refl hN, hd⟩
  | i :: rest, G, K, w, H, ts, a, h, hI, hr, hN, hd, hn => by
    simp only [aOps] at h
    simp only [wpOpsIn]
    cases ho : ops[i]? with
    | none =>
      rw [ho] at h
      exact aOps_sound hF rest h hI hr hN hd hn
    | some o =>
      rw [ho] at h
      simp only at h ⊢
      obtain ⟨hy, hno⟩ := aWant_sound hr h
      split
      · rename_i hw
        have hop := hy hw
        have hs := aOp_sound hI hr hop
        refine ⟨fun f _ => hF.fn f, ?_⟩
        rw [Oper.semAt_eq _ _ _ (aOp_notDefer hop)]
        have next : ∀ {v : Value} {w' : World}, Ends G K w H (fun v H' => aOps P m ops Q rest (aput o.dst v ts) H') v w' → wpOpsIn F n P ops (Since B N G (tipsOf H) K w nt Q) rest (a.put o.dst v) w' := by
          intro v w' ⟨x, G', K', H', k1, k2, k3, k4⟩
          have hr' := put_rel (RelAs.evo k4.kle k4.evo hr) k2 o.dst
          have := aOps_sound hF (n := n) (B := B) (N := N) (nt := nt) rest k1 k3 hr' (by have := k4.len; omega) (by rw [put_defers]; exact hd.post k4) (by rw [put_size]; exact hn)
          exact wpOps_mono (fun e a w => Since.from (k4.less hN)) rest _ _ this
        generalize (execOp a.eval o).run P w = r at hs
        cases r with
        | halt _ _ => exact hs.elim
        | ok x w' =>
          cases x with
          | value v => simp only [Oper.uponIn]; exact next hs
          | skip => simp only [Oper.uponIn]; exact next hs
          | enter f args =>
            simp only [GoesOn] at hs
            obtain ⟨rfl, hc⟩ := hs
            simp only [Oper.uponIn]
            refine ⟨fun h => (by rw [hF.depth] at h; cases h), hF.calls (hc.mono ?_)⟩
            rintro e w'' ⟨v, rfl, hv⟩
            exact next hv
          | round l f tm ca cb =>
            simp only [GoesOn] at hs
            obtain ⟨rfl, hc⟩ := hs
            simp only [Oper.uponIn]
            refine ⟨fun h => (by rw [hF.depth] at h; cases h), (hF.rounds hc).mono ?_⟩
            rintro e w'' ⟨v, rfl, hv⟩
            exact next hv
          | _ => exact hs.elim
      · rename_i hw
        have hw' : Region.wanted o (yielded ops a.tmps) = false := by simpa using hw
        refine ⟨fun f _ => hF.fn f, ?_⟩
        exact aOps_sound hF rest (hno hw') hI (put_rel hr undef_rel _) hN (by rw [put_defers]; exact hd) (by rw [put_size]; exact hn)

/-- a loop, at the head of a round -/
def loopAt (F : Fence) (n : Nat) (P : Program) (c : Code) (Q : Exit → Act → World → Prop) (a : Act) (w : World) : Prop :=
  ∀ (b : Frame) (k : List Item) (cs : List Frame), b.roundOf = F.round → F.fn b.fn → F.room (cs.length + 1 + n) →
    ∃ e a' w', Q e a' w' ∧ ArrivesIn (Machine.fenced P F) P (lone (b.atR a (.code c :: .inLoop c :: k)) cs w) b k cs e a' w'

theorem wpIn_of_loopAt {F : Fence} {n : Nat} {c : Code} {Q : Exit → Act → World → Prop} {a : Act} {w : World} (h : loopAt F n P c Q a w) : (Code.loop c).wpIn F n P Q a w := by
  intro b k cs hro hb hr
  obtain ⟨e, a₁, w₁, hq, harr⟩ := h b k cs hro hb hr
  exact ⟨e, a₁, w₁, hq, .of_steps (.one (fenced_calm hb hr rfl) stepR_loop) harr⟩

theorem loopAt_round {F : Fence} {n : Nat} {c : Code} {Q : Exit → Act → World → Prop} {a : Act} {w : World} (h : c.wpIn F n P (Exit.then (loopAt F n P c Q) Q) a w) : loopAt F n P c Q a w := by
  intro b k cs hro hb hr
  obtain ⟨e, a₁, w₁, hq, harr⟩ := h b (.inLoop c :: k) cs hro hb hr
  cases e with
  | normal =>
    obtain ⟨e₂, a₂, w₂, hq₂, harr₂⟩ := hq b k cs hro hb hr
    exact ⟨e₂, a₂, w₂, hq₂, .of_steps (StepsIn.trans harr (.one (fenced_calm hb hr rfl) stepR_inLoop)) harr₂⟩
  | exit id => exact ⟨_, a₁, w₁, hq, .pass (x := .inLoop c) rfl (fun _ _ => .inl (by simp)) harr⟩
  | goto l => exact ⟨_, a₁, w₁, hq, .pass (x := .inLoop c) rfl (fun _ _ => .inl (by simp)) harr⟩
  | ret => exact ⟨_, a₁, w₁, hq, .pass (x := .inLoop c) rfl (fun _ _ => .inl (by simp)) harr⟩
  | panic ch => exact ⟨_, a₁, w₁, hq, .pass (x := .inLoop c) rfl (fun _ _ => .inl (by simp)) harr⟩
  | outgrown => exact ⟨_, a₁, w₁, hq, .pass (x := .inLoop c) rfl (fun _ _ => .inl (by simp)) harr⟩

theorem loopAt_mono {F : Fence} {n : Nat} {c : Code} {Q Q' : Exit → Act → World → Prop} {a : Act} {w : World} (h : loopAt F n P c Q a w) (hq : ∀ e a w, Q e a w → Q' e a w) : loopAt F n P c Q' a w :=
  fun b k cs hro hb hr => let ⟨e, a', w', q, r⟩ := h b k cs hro hb hr; ⟨e, a', w', hq _ _ _ q, r⟩

theorem Inv.drew (hI : Inv G K w H) : Inv G K { w with drawn := w.drawn + 1 } H := ⟨hI.agree, hI.glob, hI.len, fun i o g h1 h2 => (hI.obj i o g h1 h2).conv (fun _ _ => rfl) (fun _ _ _ h => h) (fun _ _ h => h) (fun _ b bs h => ⟨bs, h⟩), hI.apart, hI.walks⟩

theorem Post.drew {N : Nat} (hN : N ≤ G.length) : Post N G T K w G T K { w with drawn := w.drawn + 1 } :=
  ⟨hN, Evo.refl _ _ _, Kle.refl _, fun b o v h1 h2 => by simp [h1] at h2, fun b h => .inl h, Nat.le_refl _, fun _ _ _ => rfl, rfl, rfl, rfl⟩

theorem aputs_rel {ts : List AV} : ∀ {ps : List Tmp} {args : List AV} {vs : List Value} {tm : Array Value} {ts : List AV}, RelAs G T K args vs → RelAs G T K ts tm.toList → RelAs G T K (aputs ps args ts) ((ps.zip vs).foldl (fun tmps (t, a) => tmps.setIfInBounds t a) tm).toList
  | [], args, vs, tm, ts, _, h => by simpa only [aputs, List.zip_nil_left, List.foldl_nil] using h
  | p :: ps, [], vs, tm, ts, ha, h => by
    simp only [RelAs] at ha; subst ha
    simpa only [aputs, List.zip_nil_right, List.foldl_nil] using h
  | p :: ps, x :: xs, vs, tm, ts, ha, h => by
    simp only [RelAs] at ha
    obtain ⟨v, ws, rfl, h1, h2⟩ := ha
    simp only [aputs, List.zip_cons_cons, List.foldl_cons]
    refine aputs_rel (ts := ts) h2 ?_
    rw [Array.toList_setIfInBounds]
    exact h.set p h1

theorem ObjRel.mkLoop {b : Nat} {f : FuncId} {tmps : Array Value} {ps : Array Tmp} {a c : Code} {d : Nat} {st : LoopState} {j : Option Code} {ts : List AV}
    (h : w.heap[b]? = some (.loop { state := st, pending := j, fn := f, tmps := tmps, params := ps, assign := a, body := c, defers := d })) (hr : RelAs G T K ts tmps.toList) :
    ObjRel G T K w (.loop st j ts ps a c) (.loop b f tmps ps a c d) := by
  simp only [ObjRel, h, true_and]; exact hr

theorem Inv.setLoop (hI : Inv G K w H) {id : Nat} {st st' : LoopState} {j j' : Option Code} {ts : List AV} {ps : Array Tmp} {a c : Code} (h : H[id]? = some (.loop st j ts ps a c))
    {b : Nat} {f : FuncId} {tmps : Array Value} {d : Nat} (hg : G[id]? = some (.loop b f tmps ps a c d)) (hb : b < w.heap.size) :
    Inv G K (w.putObj b (.loop { state := st', pending := j', fn := f, tmps := tmps, params := ps, assign := a, body := c, defers := d })) (H.set id (.loop st' j' ts ps a c)) ∧
      Post G.length G (tipsOf H) K w G (tipsOf (H.set id (.loop st' j' ts ps a c))) K (w.putObj b (.loop { state := st', pending := j', fn := f, tmps := tmps, params := ps, assign := a, body := c, defers := d })) := by
  obtain ⟨b', f', tm', d', hg', h1, h2⟩ := hI.loopAt h
  rw [hg] at hg'; cases hg'
  have hGs : G.set id (.loop b f tmps ps a c d) = G := list_set_same hg
  have hT : tipsOf (H.set id (.loop st' j' ts ps a c)) = tipsOf H := tipsOf_set_notTip h rfl rfl
  have hne : ∀ b', b' ≠ b → (w.putObj b (.loop { state := st', pending := j', fn := f, tmps := tmps, params := ps, assign := a, body := c, defers := d })).heap[b']? = w.heap[b']? := fun b' hb' => World.putObj_heap_other hb'
  have hk0 : ∀ o, K b o = none := fun o => by
    cases hk : K b o with
    | none => rfl
    | some v =>
      have := hI.agree _ _ _ hk
      unfold World.cell? at this
      simp [h1] at this
  have := hI.change (w' := w.putObj b (.loop { state := st', pending := j', fn := f, tmps := tmps, params := ps, assign := a, body := c, defers := d })) (K' := K) id (g' := .loop b f tmps ps a c d) (o' := .loop st' j' ts ps a c) hg h
    (by rw [World.putObj_size]; exact Nat.le_refl _) (fun b' _ hn => hne b' (by simpa [GI.blocks] using hn)) ⟨rfl, rfl, rfl⟩ (fun b' hb' => .inl hb') (Kle.refl K) (fun b' p v g1 g2 => by rw [g1] at g2; cases g2)
    (fun b' p v hk => by
      have hn : b' ≠ b := fun e => by subst e; rw [hk0] at hk; cases hk
      rw [cell_same (hne b' hn)]; exact hI.agree _ _ _ hk)
    (by simp only [evo1]) (ObjRel.mkLoop (World.putObj_heap_same hb) (by rw [hGs, hT]; exact h2)) (hI.walks_set hg h (by intro m ck es todo cur e; cases e) (by intro ck es e; cases e))
  rwa [hGs] at this

set_option maxHeartbeats 1000000 in
theorem aRange_sound {F : Fence} (hF : OkF F) {n B N nt : Nat} {g : Operand} {ps : Array Tmp} {ca cb : Code} {Q : AQ} {ts : List AV} {a : Act} (h : aRange P (aev ts g) ts ps ca cb Q H) (hI : Inv G K w H) (hr : RelAs G (tipsOf H) K ts a.tmps.toList)
    (hN : N ≤ G.length) (hR : RoundOk F N G) (hd : Marks B G w a.defers) (hn : a.tmps.size = nt) : (Code.rangeFunc g ps ca cb).wpIn F n P (Since B N G (tipsOf H) K w nt Q) a w := by
  unfold aRange at h
  have hg := aev_rel hr g
  split at h
  · rename_i gf capt hgv
    rw [hgv] at hg
    simp only [RelA] at hg
    obtain ⟨vs0, ws, hg, r0, r1⟩ := hg
    simp only [RelAs] at r0
    have hvs0 : vs0 = #[] := by apply Array.ext'; simpa using r0
    subst hvs0
    refine wpIn_rangeFunc ?_
    intro fn hfn
    -- the record is laid
    obtain ⟨l, mark, w0, w1, dB, hent, hI0, hp0, hout, hpush, hl, hmark⟩ : ∃ (l : Nat) (mark : List Deferred) (w0 w1 : World) (dB : Nat), (Instr.enterLoop fn a.tmps ps ca cb F.round).run P w = .ok (l, mark) w1 ∧
        Inv G K w0 H ∧ Post G.length G (tipsOf H) K w G (tipsOf H) K w0 ∧ Out w0 w1 ∧ w1.heap = w0.heap.push (.loop { state := .ready, pending := none, fn := fn, tmps := a.tmps, params := ps, assign := ca, body := cb, defers := dB }) ∧ l = w0.heap.size ∧
        (mark = [] ∨ ∃ r, w.heap.size ≤ r ∧ r < l ∧ mark = [{ target := .collected r, args := #[] }] ∧ w0.heap[r]? = some (.deferred (some []))) := by
      cases hro : F.round with
      | none =>
        obtain ⟨g1, g2⟩ := hI.grow (w' := w.alloc (.deferred (some []))) (o := .deferred (some [])) rfl ⟨rfl, rfl, rfl⟩
        exact ⟨_, _, w.alloc (.deferred (some [])), _, w.heap.size, run_enterLoop_outer _ _ _ _ _, g1, g2, ⟨rfl, rfl, rfl⟩, rfl, by rw [World.size_alloc], .inr ⟨w.heap.size, Nat.le_refl _, by omega, rfl, World.alloc_heap_new w _⟩⟩
      | some l0 =>
        obtain ⟨id0, hi0, f0, ts0, ps0, a0, c0, d0, hg0⟩ := hR l0 hro
        have hH0 : ∃ o, H[id0]? = some o := ⟨_, List.getElem?_eq_getElem (by rw [← hI.len]; omega)⟩
        obtain ⟨o0, hH0⟩ := hH0
        have hob := hI.obj _ _ _ hH0 hg0
        cases o0 <;> simp only [ObjRel] at hob
        exact ⟨_, _, w, _, _, run_enterLoop_inner hob.1 _ _ _ _ _, hI, Post.refl (Nat.le_refl _), ⟨rfl, rfl, rfl⟩, rfl, rfl, .inl rfl⟩
    have hnew : w1.heap[l]? = some (.loop { state := .ready, pending := none, fn := fn, tmps := a.tmps, params := ps, assign := ca, body := cb, defers := dB }) := by rw [hl]; exact heap_push_eq hpush
    obtain ⟨hI1, hp1'⟩ := hI0.new (w' := w1) hpush hout (.loop .ready none ts ps ca cb) (.loop l fn a.tmps ps ca cb dB) (by simp [GI.blocks, hl]) (ObjRel.mkLoop hnew (hr.evo (Kle.refl K) (Evo.append G H hI.len _ _))) (by intro m ck es todo cur it snap ck' es' b bs e; cases e)
    have hp1 := hp0.trans hp1'
    have hyl : RelA (G ++ [.loop l fn a.tmps ps ca cb dB]) (tipsOf (H ++ [.loop .ready none ts ps ca cb])) K (.iter H.length) (.func (.yield l) #[] #[]) := by
      simp only [RelA]
      exact ⟨.loop l fn a.tmps ps ca cb dB, by rw [← hI.len]; simp, rfl, .inr (.inr ⟨l, fn, a.tmps, ps, ca, cb, dB, rfl, rfl⟩)⟩
    have hargs : RelAs (G ++ [.loop l fn a.tmps ps ca cb dB]) (tipsOf (H ++ [.loop .ready none ts ps ca cb])) K (.iter H.length :: capt) ((#[Value.func (.yield l) #[] #[]] ++ ws : Array Value)).toList := by
      simp only [Array.toList_append, List.cons_append, List.nil_append]
      exact RelAs.cons hyl (r1.evo hp1.kle hp1.evo)
    have hcall := h.2 (G ++ [.loop l fn a.tmps ps ca cb dB]) K w1 (#[.func (.yield l) #[] #[]] ++ ws) hI1 hargs
    have hres : (resolve a.eval (rangeCall g l) 0).run P w1 = .ok { target := .fn (.func gf) ws, args := #[.func (.yield l) #[] #[]] } w1 := by
      simp only [rangeCall, resolve, Sem.run_bind, hg, Deferred.ofValue, Sem.run_pure, Result.andThen_ok]
      simp [Act.eval]
    have hinv : (invoke (.fn (.func gf) ws) #[.func (.yield l) #[] #[]]).run P w1 = .ok (.enter gf (#[.func (.yield l) #[] #[]] ++ ws)) w1 := by
      simp only [invoke]
      exact callFunc_enter h.1 _
    have hcall' := hF.calls (n := n - 1) hcall
    have hfin : CallsIn F (n - 1) P gf (#[Value.func (.yield l) #[] #[]] ++ ws) w1 (rangePost F n P l (Since B N G (tipsOf H) K w nt Q) { a with defers := mark ++ a.defers }) := by
      refine hcall'.mono ?_
      rintro e w2 ⟨v, rfl, x, G2, K2, H2, hL, _, hI2, hp2⟩
      simp only [rangePost]
      obtain ⟨st, j, lts, hH2, hst, hQ⟩ := hL
      obtain ⟨b, f, tm, d, hg2, hb2, hts2⟩ := hI2.loopAt hH2
      have hb : b = l := by
        obtain ⟨g', hg', he⟩ := hp2.evo H.length (by simp [hI.len]) (.loop l fn a.tmps ps ca cb dB) (by rw [← hI.len]; simp)
        simp only [evo1] at he
        subst he
        rw [hg2] at hg'; cases hg'; rfl
      subst hb
      obtain ⟨hI3, hp3⟩ := hI2.setLoop (st' := .exhausted) (j' := j) hH2 hg2 (Array.getElem?_eq_some_iff.1 hb2).1
      refine ⟨j, _, run_endLoop hb2 hst, ?_⟩
      have hp13 : Post N G (tipsOf H) K w G2 (tipsOf (H2.set H.length (.loop .exhausted j lts ps ca cb))) K2 _ := (hp1.less hN).trans ((hp2.less (by simp; omega)).trans (hp3.less (by have := hp2.len; simp at this; omega)))
      have hmk : Marks B G2 (w2.putObj b (.loop { state := .exhausted, pending := j, fn := f, tmps := tm, params := ps, assign := ca, body := cb, defers := d })) (mark ++ a.defers) := by
        have hold : Marks B G2 (w2.putObj b (.loop { state := .exhausted, pending := j, fn := f, tmps := tm, params := ps, assign := ca, body := cb, defers := d })) a.defers := hd.post hp13
        rcases hmark with rfl | ⟨r, hr1, hr2, rfl, hr3⟩
        · exact hold
        · have hd1 : Marks B G w0 [{ target := .collected r, args := #[] }] := by
            refine ⟨⟨r, rfl, by have := hd.size; omega, hr3, ?_, by simp⟩, by have := hd.size; have := hp0.size; show B ≤ w0.heap.size; omega⟩
            intro hb
            have := hI.lt_of_block hb; omega
          have hd2 := ((hd1.post hp1').post hp2).post hp3
          refine ⟨?_, hold⟩
          obtain ⟨⟨r', e1, e0, e2, e3, _⟩, _⟩ := hd2
          cases e1
          refine ⟨r, rfl, e0, e2, e3, fun d' hd' he => ?_⟩
          have hlt : ∀ (ds : List Deferred), Marks B G w ds → ∀ d ∈ ds, ∀ r, d.target = .collected r → r < w.heap.size := by
            intro ds
            induction ds with
            | nil => intro _ d hd; simp at hd
            | cons x xs ih =>
              rintro ⟨⟨r0, m1, m0, m2, _, _⟩, m3⟩ d hd r hr
              simp only [List.mem_cons] at hd
              rcases hd with rfl | hd
              · rw [m1] at hr; cases hr; exact (Array.getElem?_eq_some_iff.1 m2).1
              · exact ih m3 d hd r hr
          have := hlt _ hd d' hd' r he
          omega
      have hts : RelAs G2 (tipsOf (H2.set H.length (.loop .exhausted j lts ps ca cb))) K2 ts a.tmps.toList := RelAs.evo hp3.kle hp3.evo (RelAs.evo hp2.kle hp2.evo (hr.evo hp1.kle hp1.evo))
      split at hQ
      · exact ⟨trivial, hn, ts, G2, K2, _, hQ, hts, hI3, hp13, hmk⟩
      · exact wpIn_ret ⟨trivial, hn, ts, G2, K2, _, hQ, hts, hI3, hp13, hmk⟩
      · exact wpIn_exit ⟨trivial, hn, ts, G2, K2, _, hQ, hts, hI3, hp13, hmk⟩
      · exact hQ.elim
    exact ⟨l, mark, w1, _, w1, gf, _, w1, hent, hres, fun f _ => hF.fn f, hinv, fun h => (by rw [hF.depth] at h; cases h), hfin⟩
  · exact h.elim

theorem awp_sound {F : Fence} (hF : OkF F) {n : Nat} {m : Bool} {B N : Nat} {nt : Nat} : ∀ (c : Code) {Q : AQ} {ts : List AV} {H : List HO}, awp P m N c Q ts H →
    ∀ {G : List GI} {K : Kmem} {w : World} {a : Act}, Inv G K w H → RelAs G (tipsOf H) K ts a.tmps.toList → N ≤ G.length → RoundOk F N G → Marks B G w a.defers → a.tmps.size = nt →
      c.wpIn F n P (Since B N G (tipsOf H) K w nt Q) a w
  | .skip, Q, ts, H, h, G, K, w, a, hI, hr, hN, hR, hd, hn => by
    simp only [awp] at h
    exact wpIn_skip ⟨trivial, hn, ts, G, K, H, h, hr, hI, Post.refl hN, hd⟩
  | .label _, Q, ts, H, h, G, K, w, a, hI, hr, hN, hR, hd, hn => by
    simp only [awp] at h
    exact wpIn_label ⟨trivial, hn, ts, G, K, H, h, hr, hI, Post.refl hN, hd⟩
  | .exit id, Q, ts, H, h, G, K, w, a, hI, hr, hN, hR, hd, hn => by
    simp only [awp] at h
    exact wpIn_exit ⟨trivial, hn, ts, G, K, H, h, hr, hI, Post.refl hN, hd⟩
  | .ret, Q, ts, H, h, G, K, w, a, hI, hr, hN, hR, hd, hn => by
    simp only [awp] at h
    exact wpIn_ret ⟨trivial, hn, ts, G, K, H, h, hr, hI, Post.refl hN, hd⟩
  | .region id ops d, Q, ts, H, h, G, K, w, a, hI, hr, hN, hR, hd, hn => by
    cases d with
    | false =>
      simp only [awp] at h
      have h := aRun_aOps ops.toList 0 (by simp) h
      rw [← List.range_eq_range', Array.length_toList] at h
      exact wpIn_region (aOps_sound hF _ h hI hr hN hd hn)
    | true =>
      simp only [awp] at h
      exact wpIn_region_draw fun t => wpOps_mono (fun e a w => Since.from (Post.drew hN)) _ _ _ (aOps_sound hF _ (h t) hI.drew hr hN (hd.post (Post.drew (T := tipsOf H) (K := K) hN)) hn)
  | .seq x y, Q, ts, H, h, G, K, w, a, hI, hr, hN, hR, hd, hn => by
    simp only [awp] at h
    refine wpIn_seq (wpIn_mono (awp_sound hF (n := n) x h hI hr hN hR hd hn) ?_)
    intro e a' w' hs
    obtain ⟨h0, h2, ts', G', K', H', h3, h4, h5, h6, h7⟩ := hs
    cases e with
    | normal =>
      exact wpIn_mono (awp_sound hF y h3 h5 h4 h6.len (hR.post h6) h7 h2) fun e a w => Since.from h6
    | exit id => exact ⟨h0, h2, ts', G', K', H', h3, h4, h5, h6, h7⟩
    | ret => exact ⟨h0, h2, ts', G', K', H', h3, h4, h5, h6, h7⟩
    | goto _ => exact h0.elim
    | panic _ => exact h0.elim
    | outgrown => exact h0.elim
  | .cond c x y, Q, ts, H, h, G, K, w, a, hI, hr, hN, hR, hd, hn => by
    simp only [awp, abr] at h
    have hc := aev_rel hr c
    split at h
    · rename_i t ht
      rw [ht] at hc
      simp only [RelA, RelD] at hc
      exact wpIn_cond_split hc (fun e => awp_sound hF x (h.1 e) hI hr hN hR hd hn) (fun e => awp_sound hF y (h.2 e) hI hr hN hR hd hn)
    · exact h.elim
  | .block id c, Q, ts, H, h, G, K, w, a, hI, hr, hN, hR, hd, hn => by
    simp only [awp] at h
    refine wpIn_block (wpIn_mono (awp_sound hF (n := n) c h hI hr hN hR hd hn) ?_)
    intro e a' w' hs
    obtain ⟨h0, h2, ts', G', K', H', h3, h4, h5, h6, h7⟩ := hs
    cases e with
    | normal => exact ⟨h0, h2, ts', G', K', H', h3, h4, h5, h6, h7⟩
    | exit id' =>
      simp only [ablk] at h3
      simp only [Exit.inBlock]
      split at h3
      · rename_i hid
        rw [if_pos hid]
        exact ⟨trivial, h2, ts', G', K', H', h3, h4, h5, h6, h7⟩
      · rename_i hid
        rw [if_neg hid]
        exact ⟨trivial, h2, ts', G', K', H', h3, h4, h5, h6, h7⟩
    | ret => exact ⟨h0, h2, ts', G', K', H', h3, h4, h5, h6, h7⟩
    | goto _ => exact h0.elim
    | panic _ => exact h0.elim
    | outgrown => exact h0.elim
  | .loop c, Q, ts, H, h, G, K, w, a, hI, hr, hN, hR, hd, hn => by
    simp only [awp] at h
    refine wpIn_of_loopAt ?_
    have key := h (fun ts H => ∀ (G : List GI) (K : Kmem) (w : World) (a : Act), Inv G K w H → RelAs G (tipsOf H) K ts a.tmps.toList → N ≤ G.length → RoundOk F N G → Marks B G w a.defers → a.tmps.size = nt → loopAt F n P c (Since B N G (tipsOf H) K w nt Q) a w) (by
      intro ts H ts' H' hw hb G K w a hI hr hN hR hd hn
      obtain ⟨G', K', j1, j2, j3⟩ := hw G K w _ hI hr hN
      have := awp_sound hF (n := n) c hb j1 j2 j3.len (hR.post j3) (hd.post j3) hn
      refine loopAt_round (wpIn_mono this ?_)
      intro e a' w' hs
      obtain ⟨h0, h2, ts2, G2, K2, H2, h3, h4, h5, h6, h7⟩ := hs
      cases e with
      | normal => exact loopAt_mono (h3 G2 K2 w' a' h5 h4 h6.len ((hR.post j3).post h6) h7 h2) fun e a w => Since.from (j3.trans h6)
      | exit id => exact ⟨h0, h2, ts2, G2, K2, H2, h3, h4, h5, j3.trans h6, h7⟩
      | ret => exact ⟨h0, h2, ts2, G2, K2, H2, h3, h4, h5, j3.trans h6, h7⟩
      | goto _ => exact h0.elim
      | panic _ => exact h0.elim
      | outgrown => exact h0.elim)
    exact key G K w a hI hr hN hR hd hn
  | .rangeFunc g ps ca cb, Q, ts, H, h, G, K, w, a, hI, hr, hN, hR, hd, hn => by
    simp only [awp] at h
    exact aRange_sound hF h hI hr hN hR hd hn
  | .scope _, _, _, _, h, _, _, _, _, _, _, _, _, _, _ => by simp only [awp] at h
  | .goto _, _, _, _, h, _, _, _, _, _, _, _, _, _, _ => by simp only [awp] at h
  | .refuse _, _, _, _, h, _, _, _, _, _, _, _, _, _, _ => by simp only [awp] at h

/-! ### a round of a loop over a function -/
def aRoundQ (id n : Nat) (ts : List AV) (ps : Array Tmp) (a c : Code) (R : AV → List HO → Prop) : AQ := fun e ts2 H2 => H2[id]? = some (.loop .busy none ts ps a c) ∧ match e with
  | .normal => ∃ H', Weak n [] (H2.set id (.loop .ready none ts ps a c)) [] H' ∧ R (.d (.bool true)) H'
  | .ret => ∃ H', Weak n [] (H2.set id (.loop .done (some .ret) ts ps a c)) [] H' ∧ R (.d (.bool false)) H'
  | .exit i => ∃ H', Weak n [] (H2.set id (.loop .done (some (.exit i)) ts ps a c)) [] H' ∧ R (.d (.bool false)) H'
  | _ => False

def aRound1 (P : Program) (m : Bool) (id n : Nat) (ts : List AV) (ps : Array Tmp) (a c : Code) (R : AV → List HO → Prop) : AQ := fun e ts1 H1 =>
  match e with
  | .normal => H1[id]? = some (.loop .ready none ts ps a c) ∧ awp P m n c (aRoundQ id n ts ps a c R) ts1 (H1.set id (.loop .busy none ts ps a c))
  | _ => False

theorem AYield.of_awp (m : Bool) {id : Nat} {args : List AV} {R : AV → List HO → Prop} {ts : List AV} {ps : Array Tmp} {a c : Code} (hH : H[id]? = some (.loop .ready none ts ps a c)) (hps : args.length = ps.size)
    (h : awp P m H.length a (aRound1 P m id H.length ts ps a c R) (aputs ps.toList args ts) H) : AYield P id args H R := by
  refine ⟨⟨_, _, _, _, _, _, hH⟩, fun G K w vs b f tmps ps' a' c' d hI hv hg => ?_⟩
  obtain ⟨b', f', tm', d', hg', hb, hts⟩ := hI.loopAt hH
  rw [hg] at hg'; cases hg'
  have hl := hv.length
  have hidl : id < H.length := (List.getElem?_eq_some_iff.1 hH).1
  have hbl : b < w.heap.size := (Array.getElem?_eq_some_iff.1 hb).1
  refine ⟨_, _, _, _, run_yield hb (by simp only [Array.length_toList] at hl; simp only; omega), roundIn_of_wpIn trivial ?_⟩
  have hOk : OkF (Fence.wide.inRound b) := .inr ⟨b, rfl⟩
  have hRo : ∀ {G' : List GI} {T' : Tips} {K' : Kmem} {w' : World}, Post H.length G (tipsOf H) K w G' T' K' w' → RoundOk (Fence.wide.inRound b) H.length G' := fun hp => RoundOk.post hp (fun l hl => by
    cases hl; exact ⟨id, hidl, _, _, _, _, _, _, hg⟩)
  have hrel : RelAs G (tipsOf H) K (aputs ps.toList args ts) ((ps.zip vs).foldl (fun tmps (t, a) => tmps.setIfInBounds t a) tmps).toList := by
    rw [← Array.foldl_toList, Array.toList_zip]
    exact aputs_rel (ts := ts) hv hts
  have hN : H.length ≤ G.length := by rw [hI.len]; exact Nat.le_refl _
  refine wpIn_mono (awp_sound hOk (n := 0) a h (a := { tmps := (ps.zip vs).foldl (fun tmps (t, a) => tmps.setIfInBounds t a) tmps, defers := [] }) hI hrel hN (hRo (Post.refl hN)) (B := w.heap.size) (Nat.le_refl _) rfl) ?_
  intro e a1 w1 hs
  obtain ⟨h0, h2, ts', G', K', H', h3, h4, h5, h6, h7⟩ := hs
  cases e with
  | normal =>
    simp only [aRound1] at h3
    obtain ⟨h3, h8⟩ := h3
    obtain ⟨b2, f2, tm2, d2, hg2, hb2, hts2⟩ := h5.loopAt h3
    have hbe : b2 = b ∧ f2 = f ∧ tm2 = tmps ∧ d2 = d := by
      obtain ⟨g', hg', he⟩ := h6.evo id hidl _ hg
      simp only [evo1] at he
      subst he
      rw [hg2] at hg'; cases hg'; exact ⟨rfl, rfl, rfl, rfl⟩
    obtain ⟨rfl, rfl, rfl, rfl⟩ := hbe
    have hbl2 := (Array.getElem?_eq_some_iff.1 hb2).1
    obtain ⟨j1, j2⟩ := h5.setLoop (st' := .busy) (j' := none) h3 hg2 hbl2
    refine ⟨_, run_beginRound hb2 rfl, ?_⟩
    have hp2 : Post H.length G (tipsOf H) K w G' _ K' _ := h6.trans (j2.less (by have := h6.len; omega))
    refine wpIn_mono (awp_sound hOk (n := 0) c h8 j1 (RelAs.evo j2.kle j2.evo h4) hp2.len (hRo hp2) (h7.post j2) h2) ?_
    intro e a3 w3 hs
    obtain ⟨i0, i2, ts3, G3, K3, H3, i3, i4, i5, i6, i7⟩ := hs
    simp only [aRoundQ] at i3
    obtain ⟨hH3, i3⟩ := i3
    obtain ⟨b3, f3, tm3, d3, hg3, hb3, hts3⟩ := i5.loopAt hH3
    have hp3 := hp2.trans i6
    have hbe : b3 = b2 ∧ f3 = f2 ∧ tm3 = tm2 ∧ d3 = d2 := by
      obtain ⟨g', hg', he⟩ := hp3.evo id hidl _ hg
      simp only [evo1] at he
      subst he
      rw [hg3] at hg'; cases hg'; exact ⟨rfl, rfl, rfl, rfl⟩
    obtain ⟨rfl, rfl, rfl, rfl⟩ := hbe
    have hbl3 := (Array.getElem?_eq_some_iff.1 hb3).1
    have fin : ∀ (st : LoopState) (jump : Option Code), st = (if jump.isNone then .ready else .done) → (∃ H', Weak H.length [] (H3.set id (.loop st jump ts ps a c)) [] H' ∧ R (.d (.bool jump.isNone)) H') → ∃ v w', (Instr.endRound b3 jump).run P w3 = .ok v w' ∧ ∃ v', Ending.returned v = .returned v' ∧ Ends G K w H R v' w' := by
      rintro st jump rfl ⟨H', hw, hR⟩
      obtain ⟨k1, k2⟩ := i5.setLoop (st' := if jump.isNone then .ready else .done) (j' := jump) hH3 hg3 hbl3
      have hp4 : Post H.length G (tipsOf H) K w G3 _ K3 _ := hp3.trans (k2.less (by have := hp3.len; omega))
      obtain ⟨G5, K5, q1, _, q3⟩ := hw _ _ _ [] k1 RelAs.nil hp4.len
      refine ⟨_, _, run_endRound jump hb3, _, rfl, .d (.bool jump.isNone), G5, K5, H', hR, by simp only [RelA, RelD], q1, ?_⟩
      have := hp4.trans q3
      rwa [← hI.len] at this
    cases e with
    | normal => exact fin .ready none rfl i3
    | ret => exact fin .done (some .ret) rfl i3
    | exit i => exact fin .done (some (.exit i)) rfl i3
    | goto _ => exact i0.elim
    | panic _ => exact i0.elim
    | outgrown => exact i0.elim
  | ret => exact h3.elim
  | exit _ => exact h3.elim
  | goto _ => exact h0.elim
  | panic _ => exact h0.elim
  | outgrown => exact h0.elim

/-! ### a function's contract from its body -/
def ares1 (P : Program) (r : ResultVar) (ts : List AV) (H : List HO) : Option AV :=
  match r with
  | .tmp t => some (aev ts (.tmp t))
  | .cell a t => (oLoad (tinfo P t) (aev ts (.tmp a)) H).map (·.1)

def aresL (P : Program) (ts : List AV) (H : List HO) : List ResultVar → Option (List AV)
  | [] => some []
  | r :: rs => (ares1 P r ts H).bind fun x => (aresL P ts H rs).map (x :: ·)

def ares (P : Program) (rs : List ResultVar) (ts : List AV) (H : List HO) : Option AV := (aresL P ts H rs).map fun xs => match xs with | [x] => x | xs => .tup xs

def aret (P : Program) (rs : List ResultVar) (N : Nat) (R : AV → List HO → Prop) : AQ := fun e ts H =>
  match e with
  | .normal | .ret => obnd (ares P rs ts H) fun x => ∃ x' H', Weak N [x] H [x'] H' ∧ R x' H'
  | _ => False

theorem aresL_sound (hI : Inv G K w H) {ts : List AV} {a : Act} (hr : RelAs G (tipsOf H) K ts a.tmps.toList) : ∀ {rs : List ResultVar} {xs : List AV}, aresL P ts H rs = some xs →
    ∃ vs : List Value, (rs.mapM fun r => (match r with | .tmp t => pure (a.tmps.getD t undef) | .cell b t => do loadVar t (← asAddr (a.tmps.getD b undef)) : Sem Value)).run P w = .ok vs w ∧ RelAs G (tipsOf H) K xs vs
  | [], xs, h => by
    simp only [aresL, Option.some.injEq] at h; subst h
    exact ⟨[], by simp, RelAs.nil⟩
  | r :: rs, xs, h => by
    simp only [aresL, Option.bind_eq_some_iff, Option.map_eq_some_iff] at h
    obtain ⟨x, h1, ys, h2, rfl⟩ := h
    obtain ⟨vs, k1, k2⟩ := aresL_sound hI hr h2
    cases r with
    | tmp t =>
      simp only [ares1, Option.some.injEq] at h1; subst h1
      refine ⟨a.tmps.getD t undef :: vs, ?_, RelAs.cons (aev_rel hr (.tmp t)) k2⟩
      simp only [List.mapM_cons, Sem.run_bind, Sem.run_pure, Result.andThen_ok]
      rw [k1]; simp
    | cell b t =>
      simp only [ares1, Option.map_eq_some_iff] at h1
      obtain ⟨⟨x', H'⟩, h1, rfl⟩ := h1
      obtain ⟨rfl, y, hy, ry⟩ := oLoad_sound (P := P) hI (aev_rel hr (.tmp b)) h1
      refine ⟨y :: vs, ?_, RelAs.cons ry k2⟩
      have hy' : (do loadVar t (← asAddr (a.tmps.getD b undef)) : Sem Value).run P w = .ok y w := by
        simp only [Act.eval] at hy
        generalize a.tmps.getD b undef = v at hy
        simp only [Instr.loadAt, Sem.run_bind] at hy ⊢
        cases v with
        | pointer p =>
          cases p with
          | some p => simpa [Instr.sureAddr, asAddr] using hy
          | none => simp [Instr.sureAddr, stuck, Result.andThen] at hy
        | _ => simp [Instr.sureAddr, stuck, Result.andThen] at hy
      simp only [List.mapM_cons, Sem.run_bind] at hy' ⊢
      rw [hy']
      simp only [Result.andThen_ok, Sem.run_bind]
      rw [k1]; simp

theorem ares_sound (hI : Inv G K w H) {ts : List AV} {a : Act} (hr : RelAs G (tipsOf H) K ts a.tmps.toList) {fn : Func} {x : AV} (h : ares P fn.results.toList ts H = some x) :
    ∃ v, (results fn a.tmps).run P w = .ok v w ∧ RelA G (tipsOf H) K x v := by
  simp only [ares, Option.map_eq_some_iff] at h
  obtain ⟨xs, h1, h2⟩ := h
  obtain ⟨vs, k1, k2⟩ := aresL_sound (P := P) hI hr h1
  have hm : (fn.results.mapM fun r => (match r with | .tmp t => pure (a.tmps.getD t undef) | .cell b t => do loadVar t (← asAddr (a.tmps.getD b undef)) : Sem Value)).run P w = .ok vs.toArray w := by
    rw [Array.mapM_eq_mapM_toList, Sem.run_map, k1]; rfl
  refine ⟨if h : vs.toArray.size = 1 then vs.toArray[0] else .tuple vs.toArray, by unfold results; rw [Sem.run_bind]; erw [hm]; simp only [Result.andThen_ok, Sem.run_pure], ?_⟩
  have hl := k2.length
  split at h2
  · rename_i y
    subst h2
    simp only [RelAs] at k2
    obtain ⟨u, ws, rfl, r1, rfl⟩ := k2
    simpa using r1
  · rename_i hne
    subst h2
    have : vs.toArray.size ≠ 1 := by
      intro e
      simp at e
      rw [← hl] at e
      cases xs with
      | nil => simp at e
      | cons y ys => cases ys with
        | nil => exact hne y rfl
        | cons _ _ => simp at e
    rw [dif_neg this]
    simp only [RelA]
    exact ⟨_, rfl, by simpa using k2⟩

theorem ACalls.of_awp {f : FuncId} {fn : Func} {c : Code} (m : Bool) {args : List AV} {H : List HO} {R : AV → List HO → Prop} (hf : P.funcs[f]? = some fn) (hnm : fn.name ≠ "runtime.NumGoroutine") (hb : fn.body = some c)
    (h : awp P m H.length c (aret P fn.results.toList H.length R) (args ++ List.replicate (fn.ntmps - args.length) (.tup [])) H) : ACalls P f args H R := by
  refine ⟨⟨fn, hf, hnm, by rw [hb]; rfl⟩, fun G K w vs hI hv => ?_⟩
  refine callsIn_wide.1 (callsIn_of_wp_marks (F := Fence.wide) (n := 0) hf hb trivial ?_)
  have hl := hv.length
  simp only [Array.length_toList] at hl
  have hr : RelAs G (tipsOf H) K (args ++ List.replicate (fn.ntmps - args.length) (.tup [])) (vs ++ Array.replicate (fn.ntmps - vs.size) undef).toList := by
    rw [Array.toList_append, hl]
    refine hv.append ?_
    rw [Array.toList_replicate]
    induction fn.ntmps - vs.size with
    | zero => exact RelAs.nil
    | succ k ih => exact RelAs.cons undef_rel ih
  have := awp_sound (F := Fence.wide) (n := 0) (.inl rfl) (nt := (vs ++ Array.replicate (fn.ntmps - vs.size) undef).size) c h (a := { tmps := vs ++ Array.replicate (fn.ntmps - vs.size) undef, defers := [] }) hI hr (by rw [hI.len]; exact Nat.le_refl _) (fun l hl => by cases hl) (B := w.heap.size) (Nat.le_refl _) rfl
  refine wpIn_mono this ?_
  intro e a' w' hs
  obtain ⟨h0, h2, ts', G', K', H', h3, h4, h5, h6, h7⟩ := hs
  have fin : (obnd (ares P fn.results.toList ts' H') fun x => ∃ x' H'', Weak H.length [x] H' [x'] H'' ∧ R x' H'') → LeavesInM Fence.wide 0 P fn a'.tmps (fun (e : Ending) (w' : World) => ∃ v, e = .returned v ∧ Ends G K w H R v w') a'.defers .returning w' := by
    intro h3
    obtain ⟨x, hx, x', H'', hw, hR⟩ := obnd_some h3
    have hpN : Post H.length G (tipsOf H) K w G' (tipsOf H') K' w' := h6
    clear h6
    generalize a'.defers = ds at h7
    have key : ∀ (ds : List Deferred) (w1 : World), Inv G' K' w1 H' → Post H.length G (tipsOf H) K w G' (tipsOf H') K' w1 → Marks w.heap.size G' w1 ds →
        LeavesInM Fence.wide 0 P fn a'.tmps (fun (e : Ending) (w' : World) => ∃ v, e = .returned v ∧ Ends G K w H R v w') ds .returning w1 := by
      intro ds
      induction ds with
      | nil =>
        intro w1 hI1 hp1 _
        obtain ⟨v, hv, rv⟩ := ares_sound hI1 h4 hx
        obtain ⟨G2, K2, j1, j2, j3⟩ := hw G' K' w1 [v] hI1 (RelAs.cons rv RelAs.nil) (by have := hp1.len; exact this)
        simp only [RelAs] at j2
        obtain ⟨_, _, e, j2, rfl⟩ := j2
        cases e
        refine ⟨v, hv, v, rfl, x', G2, K2, H'', hR, j2, j1, ?_⟩
        have := hp1.trans j3
        rwa [← hI.len] at this
      | cons d ds ih =>
        rintro w1 hI1 hp1 ⟨⟨r, m1, m0, m2, m3, m4⟩, hm⟩
        refine ⟨by simp, .inl ⟨r, w1.putObj r (.deferred none), m1, run_takeDeferred m2, ih _ (hI1.other m2 rfl m3) ?_ ?_⟩⟩
        · exact ⟨hp1.len, hp1.evo, hp1.kle, hp1.knew, hp1.gnew, by rw [World.putObj_size]; exact hp1.size, fun b hb hn => by rw [World.putObj_heap_other (by omega)]; exact hp1.same b hb hn, hp1.os, hp1.out, hp1.tape⟩
        · have hmm : ∀ (ds : List Deferred), (∀ d' ∈ ds, d'.target ≠ .collected r) → Marks w.heap.size G' w1 ds → Marks w.heap.size G' (w1.putObj r (.deferred none)) ds := by
            intro ds
            induction ds with
            | nil => intro _ h; show _ ≤ (w1.putObj r (.deferred none)).heap.size; rw [World.putObj_size]; exact h
            | cons x xs ih2 =>
              rintro hne ⟨⟨r0, n1, n0, n2, n3, n4⟩, n5⟩
              refine ⟨⟨r0, n1, n0, ?_, n3, n4⟩, ih2 (fun d' hd' => hne d' (by simp [hd'])) n5⟩
              rw [World.putObj_heap_other (fun e => hne x (by simp) (by rw [n1, e]))]; exact n2
          exact hmm ds m4 hm
    exact key ds w' h5 hpN h7
  cases e with
  | normal => exact fin h3
  | ret => exact fin h3
  | exit id => exact h3.elim
  | goto _ => exact h0.elim
  | panic _ => exact h0.elim
  | outgrown => exact h0.elim

end Go.Proofs.YthhmioodienlmaaGreatDoor

/- The abstract machine, part 17: the rules by which a walk goes on. -/
namespace Go.Proofs.YthhmioodienlmaaGreatDoor
open Go

variable {P : Program} {G : List GI} {T : Tips} {K : Kmem} {w : World} {H H' : List HO}

/-- what comes behind an operation (a name, so that nothing is run ahead of its time) -/
def nxt (P : Program) (m : Bool) (ops : Array Oper) (Q : AQ) (l : List Oper) (d : Option Tmp) (ts : List AV) (v : AV) (H : List HO) : Prop := aRun P m ops Q l (aput d v ts) H
/-- a branch, at a value -/
def cnd (P : Program) (m : Bool) (N : Nat) (a b : Code) (Q : AQ) (ts : List AV) (H : List HO) (c : AV) : Prop := abr c (awp P m N a Q ts H) (awp P m N b Q ts H)
/-- an operation that stands under a condition -/
def gwd (P : Program) (m : Bool) (ops : Array Oper) (Q : AQ) (l : List Oper) (d : Option Tmp) (op : Op) (ts : List AV) (H : List HO) (want : Bool) (c : AV) : Prop :=
  match c with
  | .d (.bool b) => (b = want → aOp P m op ts H (nxt P m ops Q l d ts)) ∧ (b ≠ want → aRun P m ops Q l (aput d (.tup []) ts) H)
  | .tup [] => aRun P m ops Q l (aput d (.tup []) ts) H
  | _ => False
def binK (ek : EqK) (op : BinOp) (x : AV) (y : Operand) (yv : AV) (H : List HO) (K : AV → List HO → Prop) : Prop :=
  match ek with
  | .sl => slNil op x y H K
  | ek => res (oBin ek op x yv H) K

theorem res_ok {x : AV} {H : List HO} {K : AV → List HO → Prop} : res (some (x, H)) K = K x H := by rfl
theorem resv_ok {x : AV} {H : List HO} {K : AV → List HO → Prop} : resv (some x) H K = K x H := by rfl
theorem obnd_ok {α : Type} {x : α} {K : α → Prop} : obnd (some x) K = K x := by rfl
theorem res_if {c : Prop} [Decidable c] {r : Res} {K : AV → List HO → Prop} : res (if c then r else none) K = (c ∧ res r K) := by
  by_cases h : c <;> simp [h, res]
theorem res_if' {c : Prop} [Decidable c] {r : Res} {K : AV → List HO → Prop} : res (if c then none else r) K = (¬ c ∧ res r K) := by
  by_cases h : c <;> simp [h, res]

theorem awp_skip {m : Bool} {N : Nat} {Q : AQ} {ts : List AV} {H : List HO} : awp P m N .skip Q ts H = Q .normal ts H := by rfl
theorem awp_exit {m : Bool} {N : Nat} {i : Nat} {Q : AQ} {ts : List AV} {H : List HO} : awp P m N (.exit i) Q ts H = Q (.exit i) ts H := by rfl
theorem awp_ret {m : Bool} {N : Nat} {Q : AQ} {ts : List AV} {H : List HO} : awp P m N .ret Q ts H = Q .ret ts H := by rfl
theorem awp_region {m : Bool} {N i : Nat} {ops : List Oper} {Q : AQ} {ts : List AV} {H : List HO} : awp P m N (.region i ops.toArray false) Q ts H = aRun P m ops.toArray Q ops ts H := by simp only [awp]
theorem awp_seq {m : Bool} {N : Nat} {a b : Code} {Q : AQ} {ts : List AV} {H : List HO} : awp P m N (.seq a b) Q ts H = awp P m N a (athen (awp P m N b Q) Q) ts H := by rfl
theorem awp_block {m : Bool} {N i : Nat} {a : Code} {Q : AQ} {ts : List AV} {H : List HO} : awp P m N (.block i a) Q ts H = awp P m N a (ablk i Q) ts H := by rfl
theorem awp_cond {m : Bool} {N : Nat} {c : Operand} {a b : Code} {Q : AQ} {ts : List AV} {H : List HO} : awp P m N (.cond c a b) Q ts H = cnd P m N a b Q ts H (aev ts c) := by rfl
theorem cnd_true {m : Bool} {N : Nat} {a b : Code} {Q : AQ} {ts : List AV} {H : List HO} : cnd P m N a b Q ts H (.d (.bool true)) = awp P m N a Q ts H := by simp [cnd, abr]
theorem cnd_false {m : Bool} {N : Nat} {a b : Code} {Q : AQ} {ts : List AV} {H : List HO} : cnd P m N a b Q ts H (.d (.bool false)) = awp P m N b Q ts H := by simp [cnd, abr]
theorem cnd_if {m : Bool} {N : Nat} {a b : Code} {Q : AQ} {ts : List AV} {H : List HO} {c : Prop} [Decidable c] (ha : c → awp P m N a Q ts H) (hb : ¬ c → awp P m N b Q ts H) : cnd P m N a b Q ts H (.d (.bool (decide c))) :=
  ⟨fun h => ha (of_decide_eq_true h), fun h => hb (of_decide_eq_false h)⟩
theorem cnd_b {m : Bool} {N : Nat} {a b : Code} {Q : AQ} {ts : List AV} {H : List HO} {c : Bool} (ha : c = true → awp P m N a Q ts H) (hb : c = false → awp P m N b Q ts H) : cnd P m N a b Q ts H (.d (.bool c)) := ⟨ha, hb⟩
theorem athen_normal {n : List AV → List HO → Prop} {Q : AQ} {ts : List AV} {H : List HO} : athen n Q .normal ts H = n ts H := by rfl
theorem athen_exit {n : List AV → List HO → Prop} {Q : AQ} {i : Nat} {ts : List AV} {H : List HO} : athen n Q (.exit i) ts H = Q (.exit i) ts H := by rfl
theorem athen_ret {n : List AV → List HO → Prop} {Q : AQ} {ts : List AV} {H : List HO} : athen n Q .ret ts H = Q .ret ts H := by rfl
theorem ablk_normal {i : Nat} {Q : AQ} {ts : List AV} {H : List HO} : ablk i Q .normal ts H = Q .normal ts H := by rfl
theorem ablk_exit {i j : Nat} {Q : AQ} {ts : List AV} {H : List HO} : ablk i Q (.exit j) ts H = if j = i then Q .normal ts H else Q (.exit j) ts H := by rfl
theorem ablk_ret {i : Nat} {Q : AQ} {ts : List AV} {H : List HO} : ablk i Q .ret ts H = Q .ret ts H := by rfl
theorem aRun_nil {m : Bool} {ops : Array Oper} {Q : AQ} {ts : List AV} {H : List HO} : aRun P m ops Q [] ts H = Q .normal ts H := by rfl
theorem aRun_plain {m : Bool} {ops : Array Oper} {Q : AQ} {d : Option Tmp} {op : Op} {t : TypeId} {pos : String} {af : Array Edge} {l : List Oper} {ts : List AV} {H : List HO} :
    aRun P m ops Q (⟨d, op, t, pos, af, none⟩ :: l) ts H = aOp P m op ts H (nxt P m ops Q l d ts) := by rfl
theorem nxt_run {m : Bool} {ops : Array Oper} {Q : AQ} {l : List Oper} {d : Option Tmp} {ts : List AV} {v : AV} {H : List HO} : nxt P m ops Q l d ts v H = aRun P m ops Q l (aput d v ts) H := by rfl
theorem aRun_guard {m : Bool} {ops : List Oper} {Q : AQ} {d : Option Tmp} {op : Op} {t : TypeId} {pos : String} {af : Array Edge} {j : Nat} {want : Bool} {l : List Oper} {ts : List AV} {H : List HO} {oj : Oper} {dj : Tmp} {v : AV}
    (ho : ops[j]? = some oj) (hd : oj.dst = some dj) (hv : ts[dj]? = some v) : aRun P m ops.toArray Q (⟨d, op, t, pos, af, some (j, want)⟩ :: l) ts H = gwd P m ops.toArray Q l d op ts H want v := by
  simp only [aRun, aWant, List.getElem?_toArray, ho, Option.bind_some, hd, hv, gwd]
  cases v with
  | d x => cases x <;> rfl
  | tup xs => cases xs <;> rfl
  | _ => rfl
theorem gwd_yes {m : Bool} {ops : Array Oper} {Q : AQ} {l : List Oper} {d : Option Tmp} {op : Op} {ts : List AV} {H : List HO} {b : Bool} : gwd P m ops Q l d op ts H b (.d (.bool b)) = aOp P m op ts H (nxt P m ops Q l d ts) := by simp [gwd]
theorem gwd_not {m : Bool} {ops : Array Oper} {Q : AQ} {l : List Oper} {d : Option Tmp} {op : Op} {ts : List AV} {H : List HO} {b : Bool} : gwd P m ops Q l d op ts H b (.d (.bool (!b))) = aRun P m ops Q l (aput d (.tup []) ts) H := by simp [gwd]
theorem gwd_tf {m : Bool} {ops : Array Oper} {Q : AQ} {l : List Oper} {d : Option Tmp} {op : Op} {ts : List AV} {H : List HO} : gwd P m ops Q l d op ts H true (.d (.bool false)) = aRun P m ops Q l (aput d (.tup []) ts) H := by simp [gwd]
theorem gwd_ft {m : Bool} {ops : Array Oper} {Q : AQ} {l : List Oper} {d : Option Tmp} {op : Op} {ts : List AV} {H : List HO} : gwd P m ops Q l d op ts H false (.d (.bool true)) = aRun P m ops Q l (aput d (.tup []) ts) H := by simp [gwd]
theorem gwd_un {m : Bool} {ops : Array Oper} {Q : AQ} {l : List Oper} {d : Option Tmp} {op : Op} {ts : List AV} {H : List HO} {b : Bool} : gwd P m ops Q l d op ts H b (.tup []) = aRun P m ops Q l (aput d (.tup []) ts) H := by rfl
theorem abr_bool {t : Bool} {a b : Prop} : abr (.d (.bool t)) a b = ((t = true → a) ∧ (t = false → b)) := by rfl
theorem abr_intro {c : Prop} [Decidable c] {a b : Prop} (ha : c → a) (hb : ¬ c → b) : abr (.d (.bool (decide c))) a b := ⟨fun h => ha (of_decide_eq_true h), fun h => hb (of_decide_eq_false h)⟩
theorem abr_true {a b : Prop} (ha : a) : abr (.d (.bool true)) a b := ⟨fun _ => ha, (fun h => by cases h)⟩
theorem abr_false {a b : Prop} (hb : b) : abr (.d (.bool false)) a b := ⟨(fun h => by cases h), fun _ => hb⟩
theorem abr_b {t : Bool} {a b : Prop} (ha : t = true → a) (hb : t = false → b) : abr (.d (.bool t)) a b := ⟨ha, hb⟩

theorem aput_some {d : Tmp} {v : AV} {ts : List AV} : aput (some d) v ts = ts.set d v := by rfl
theorem aput_none {v : AV} {ts : List AV} : aput none v ts = ts := by rfl
theorem aev_tmp {ts : List AV} {t : Tmp} : aev ts (.tmp t) = (ts[t]?).getD (.tup []) := by rfl
theorem aev_const {ts : List AV} {v : Value} : aev ts (.const v) = absV v := by rfl
theorem aev_func {ts : List AV} {f : FuncId} : aev ts (.func f) = .fn (.func f) [] [] := by rfl
theorem absV_int {k : IntKind} {n : Int} : absV (.int k n) = .d (.int k n) := by rfl
theorem absV_bool {b : Bool} : absV (.bool b) = .d (.bool b) := by rfl

theorem aOp_move {m : Bool} {x : Operand} {ts : List AV} {K : AV → List HO → Prop} : aOp P m (.move x) ts H K = K (aev ts x) H := by rfl
theorem aOp_assign {m : Bool} {x : Operand} {ts : List AV} {K : AV → List HO → Prop} : aOp P m (.assign x) ts H K = K (aev ts x) H := by rfl
theorem aOp_pick {m : Bool} {c a b : Operand} {ts : List AV} {K : AV → List HO → Prop} : aOp P m (.pick c a b) ts H K = res (oPick (aev ts c) (aev ts a) (aev ts b) H) K := by rfl
theorem aOp_alloc {m : Bool} {t : TypeId} {ts : List AV} {K : AV → List HO → Prop} : aOp P m (.alloc t) ts H K = res (oAlloc (tinfo P t) H) K := by rfl
theorem aOp_box {m : Bool} {t : TypeId} {x : Operand} {ts : List AV} {K : AV → List HO → Prop} : aOp P m (.box t x) ts H K = res (oBox (aev ts x) H) K := by rfl
theorem aOp_build {m : Bool} {t : TypeId} {ps : Array (Nat × Operand)} {ts : List AV} {K : AV → List HO → Prop} : aOp P m (.build t ps) ts H K = obnd (tinfo P t) fun ti => res (oBuild (some ti) (tinfo P ti.elem) (aparts ts ps) H) K := by rfl
theorem aOp_buildSlice {m : Bool} {t : TypeId} {n : Nat} {ps : Array (Nat × Operand)} {ts : List AV} {K : AV → List HO → Prop} : aOp P m (.buildSlice t n ps) ts H K = obnd (tinfo P t) fun ti => res (oBuildSlice m (some ti) (tinfo P ti.elem) n (aparts ts ps) H) K := by rfl
theorem aOp_load {m : Bool} {t : TypeId} {x : Operand} {ts : List AV} {K : AV → List HO → Prop} : aOp P m (.load t x) ts H K = res (oLoad (tinfo P t) (aev ts x) H) K := by rfl
theorem aOp_store {m : Bool} {t : TypeId} {x y : Operand} {ts : List AV} {K : AV → List HO → Prop} : aOp P m (.store t x y) ts H K = res (oStore (tinfo P t) (aev ts x) (aev ts y) H) K := by rfl
theorem aOp_nilCheck {m : Bool} {x : Operand} {ts : List AV} {K : AV → List HO → Prop} : aOp P m (.nilCheck x) ts H K = resv (oNilCheck (aev ts x) H) H K := by rfl
theorem aOp_unOp {m : Bool} {op : UnOp} {t : TypeId} {x : Operand} {ts : List AV} {K : AV → List HO → Prop} : aOp P m (.unOp op t x) ts H K = resv (oUn op (aev ts x)) H K := by rfl
theorem aOp_convert {m : Bool} {s d : TypeId} {x : Operand} {ts : List AV} {K : AV → List HO → Prop} : aOp P m (.convert s d x) ts H K = resv (oConv (cvK P s d) (aev ts x)) H K := by rfl
theorem aOp_makeFunc {m : Bool} {fn : Fn} {f c : Array Operand} {ts : List AV} {K : AV → List HO → Prop} : aOp P m (.makeFunc fn f c) ts H K = K (.fn fn (aevs ts f) (aevs ts c)) H := by rfl
theorem aOp_slice {m : Bool} {t : TypeId} {x : Operand} {lo hi mx : Option Operand} {ts : List AV} {K : AV → List HO → Prop} : aOp P m (.slice t x lo hi mx) ts H K = obnd (tinfo P t) fun ti => res (oSlice (some ti) (tinfo P ti.elem) (aev ts x) (aevo ts lo) (aevo ts hi) (aevo ts mx) H) K := by rfl
theorem aOp_fieldAddr {m : Bool} {s : TypeId} {x : Operand} {f : Nat} {ts : List AV} {K : AV → List HO → Prop} : aOp P m (.fieldAddr s x f) ts H K = res (oFieldAddr (tinfo P s) (aev ts x) f H) K := by rfl
theorem aOp_field {m : Bool} {s : TypeId} {x : Operand} {f : Nat} {ts : List AV} {K : AV → List HO → Prop} : aOp P m (.field s x f) ts H K = res (oField (tinfo P s) (aev ts x) f H) K := by rfl
theorem aOp_indexAddr {m : Bool} {t : TypeId} {x i : Operand} {ts : List AV} {K : AV → List HO → Prop} : aOp P m (.indexAddr t x i) ts H K = obnd (tinfo P t) fun ti => res (oIndexAddr (some ti) (tinfo P ti.elem) (aev ts x) (aev ts i) H) K := by rfl
theorem aOp_index {m : Bool} {t : TypeId} {x i : Operand} {ts : List AV} {K : AV → List HO → Prop} : aOp P m (.index t x i) ts H K = res (oIndexX P t (aev ts x) (aev ts i) H) K := by rfl
theorem oIndexX_d {t : TypeId} {x : D} {i : AV} : oIndexX P t (.d x) i H = oIndex (tinfo P t) (.d x) i H := by rfl
attribute [go_sem] oIndexX_d
theorem aOp_extract {m : Bool} {x : Operand} {i : Nat} {ts : List AV} {K : AV → List HO → Prop} : aOp P m (.extract x i) ts H K = res (oExtract (aev ts x) i H) K := by rfl
theorem aOp_len {m : Bool} {t : TypeId} {x : Operand} {ts : List AV} {K : AV → List HO → Prop} : aOp P m (.call ⟨.builtin .len, #[x], #[t]⟩) ts H K = res (oLen (tinfo P t) (aev ts x) H) K := by rfl
theorem aOp_append {m : Bool} {t t2 : TypeId} {x y : Operand} {ts : List AV} {K : AV → List HO → Prop} : aOp P m (.call ⟨.builtin .append, #[x, y], #[t, t2]⟩) ts H K =
  obnd (tinfo P t) fun ti => ti.isSl = true ∧ notInt P t2 = true ∧ aAppend m (tinfo P ti.elem) (aev ts x) (aev ts y) H K := by rfl
theorem aOp_call {m : Bool} {f : FuncId} {as : Array Operand} {tys : Array TypeId} {ts : List AV} {K : AV → List HO → Prop} : aOp P m (.call ⟨.value (.func f), as, tys⟩) ts H K = ACalls P f (aevs ts as) H K := by
  simp only [aOp, aCall, aev, List.nil_append, List.append_nil]
theorem aOp_binOp {m : Bool} {op : BinOp} {t t2 : TypeId} {x y : Operand} {ts : List AV} {K : AV → List HO → Prop} : aOp P m (.binOp op t x y t2) ts H K = binK (eqK P t) op (aev ts x) y (aev ts y) H K := by
  simp only [aOp, binK]
  cases eqK P t <;> rfl
theorem binK_no {op : BinOp} {x : AV} {y : Operand} {yv : AV} {K : AV → List HO → Prop} : binK .no op x y yv H K = res (oBin .no op x yv H) K := by rfl
theorem binK_bool {op : BinOp} {x : AV} {y : Operand} {yv : AV} {K : AV → List HO → Prop} : binK .bool op x y yv H K = res (oBin .bool op x yv H) K := by rfl
theorem binK_ptr {op : BinOp} {x : AV} {y : Operand} {yv : AV} {K : AV → List HO → Prop} : binK .ptr op x y yv H K = res (oBin .ptr op x yv H) K := by rfl
theorem binK_fn {op : BinOp} {x : AV} {y : Operand} {yv : AV} {K : AV → List HO → Prop} : binK .fn op x y yv H K = res (oBin .fn op x yv H) K := by rfl
theorem oBin_int {ek : EqK} {op : BinOp} {k k' : IntKind} {x y : Int} : oBin ek op (.d (.int k x)) (.d (.int k' y)) H = (iBin op k k' x y).map fun r => (.d r, H) := by rfl
theorem oBin_str {ek : EqK} {op : BinOp} {x y : Str} : oBin ek op (.d (.str x)) (.d (.str y)) H = (sBin op x y).map fun r => (.d r, H) := by rfl
theorem iBin_add {k : IntKind} {x y : Int} : iBin .add k k x y = some (.int k (k.wrap (x + y))) := by simp [iBin]
theorem iBin_sub {k : IntKind} {x y : Int} : iBin .sub k k x y = some (.int k (k.wrap (x - y))) := by simp [iBin]
theorem iBin_mul {k : IntKind} {x y : Int} : iBin .mul k k x y = some (.int k (k.wrap (x * y))) := by simp [iBin]
theorem iBin_eql {k : IntKind} {x y : Int} : iBin .eql k k x y = some (.bool (decide (x = y))) := by simp [iBin]
theorem iBin_neq {k : IntKind} {x y : Int} : iBin .neq k k x y = some (.bool (decide (x ≠ y))) := by simp [iBin]
theorem iBin_lss {k : IntKind} {x y : Int} : iBin .lss k k x y = some (.bool (decide (x < y))) := by simp [iBin]
theorem iBin_leq {k : IntKind} {x y : Int} : iBin .leq k k x y = some (.bool (decide (x ≤ y))) := by simp [iBin]
theorem iBin_gtr {k : IntKind} {x y : Int} : iBin .gtr k k x y = some (.bool (decide (y < x))) := by simp [iBin]
theorem iBin_geq {k : IntKind} {x y : Int} : iBin .geq k k x y = some (.bool (decide (y ≤ x))) := by simp [iBin]
theorem sBin_eql {x y : Str} : sBin .eql x y = some (.bool (decide (x = y))) := by rfl
theorem sBin_neq {x y : Str} : sBin .neq x y = some (.bool (decide (x ≠ y))) := by rfl
theorem sBin_lss {x y : Str} : sBin .lss x y = some (.bool (strLt x y)) := by rfl
theorem sBin_gtr {x y : Str} : sBin .gtr x y = some (.bool (!(strLt x y || decide (x = y)))) := by rfl
theorem sBin_leq {x y : Str} : sBin .leq x y = some (.bool (strLt x y || decide (x = y))) := by rfl
theorem sBin_geq {x y : Str} : sBin .geq x y = some (.bool (!strLt x y)) := by rfl

/-! the operations at known shapes -/
theorem oLen_sl {n b el : Nat} {ag isM : Bool} {fs : List (Nat × Nat × Bool)} {al : Option Nat} {ky : TypeId} {ki : Option IntKind} {st : Bool} {z : List D} {c : Bool} {es : List (List D)} :
    oLen (some ⟨n, b, ag, fs, el, al, true, isM, ky, ki, st, z⟩) (.d (.sl c es)) H = some (.d (.int .i64 es.length), H) := by rfl
theorem oLen_vec {n b el : Nat} {ag isM : Bool} {fs : List (Nat × Nat × Bool)} {al : Option Nat} {ky : TypeId} {ki : Option IntKind} {st : Bool} {z : List D} {id pos : Nat} {es : List (List D)} :
    oLen (some ⟨n, b, ag, fs, el, al, true, isM, ky, ki, st, z⟩) (.vec id pos es) H = some (.d (.int .i64 es.length), H) := by rfl
theorem oLen_str {n b el : Nat} {ag isS isM : Bool} {fs : List (Nat × Nat × Bool)} {al : Option Nat} {ky : TypeId} {ki : Option IntKind} {z : List D} {s : Str} :
    oLen (some ⟨n, b, ag, fs, el, al, isS, isM, ky, ki, true, z⟩) (.d (.str s)) H = some (.d (.int .i64 s.length), H) := by rfl
/-- an element of a slice of pure data -/
theorem res_index {ti te : TInf} {c : Bool} {es : List (List D)} {k : IntKind} {n : Int} {x : List D} {K : AV → List HO → Prop} (hal : ti.alen = none) (his : ti.isSl = true) (hn : 0 ≤ n) (hx : es[n.toNat]? = some x) (hl : x.length = te.size)
    (h : K (.d (.ptr x)) H) : res (oIndexAddr (some ti) (some te) (.d (.sl c es)) (.d (.int k n)) H) K := by
  have hlt := (List.getElem?_eq_some_iff.1 hx).1
  have hr : inRange n es.length = true := by simp [inRange]; omega
  simp only [oIndexAddr, hal, his, hr, if_true, hx, hl, res]; exact h
theorem res_indexV {ti te : TInf} {id pos : Nat} {es : List (List D)} {k : IntKind} {n : Int} {x : List D} {K : AV → List HO → Prop} (hal : ti.alen = none) (his : ti.isSl = true) (hn : 0 ≤ n) (hx : es[n.toNat]? = some x) (hl : x.length = te.size)
    (h : K (.d (.ptr x)) H) : res (oIndexAddr (some ti) (some te) (.vec id pos es) (.d (.int k n)) H) K := by
  have hlt := (List.getElem?_eq_some_iff.1 hx).1
  have hr : inRange n es.length = true := by simp [inRange]; omega
  simp only [oIndexAddr, hal, his, hr, if_true, hx, hl, res]; exact h
theorem oFieldAddr_d {n b el : Nat} {ag isS isM : Bool} {fs : List (Nat × Nat × Bool)} {al : Option Nat} {ky : TypeId} {ki : Option IntKind} {st : Bool} {z : List D} {cs : List D} {f o s : Nat} {g : Bool} (hf : fs[f]? = some (o, s, g)) (hs : s ≠ 0) :
    oFieldAddr (some ⟨n, b, ag, fs, el, al, isS, isM, ky, ki, st, z⟩) (.d (.ptr cs)) f H = some (.d (.ptr (cs.drop o)), H) := by simp [oFieldAddr, hf, hs]
theorem oFieldAddr_h {n b el : Nat} {ag isS isM : Bool} {fs : List (Nat × Nat × Bool)} {al : Option Nat} {ky : TypeId} {ki : Option IntKind} {st : Bool} {z : List D} {id off : Nat} {cs : List AV} {f o s : Nat} {g : Bool} (hc : hcells H id = some cs) (hf : fs[f]? = some (o, s, g)) (hs : s ≠ 0) :
    oFieldAddr (some ⟨n, b, ag, fs, el, al, isS, isM, ky, ki, st, z⟩) (.ptr id off) f H = some (.ptr id (off + o), H) := by simp [oFieldAddr, hf, hs, hc]
theorem oLoad_d1 {b el : Nat} {isS isM : Bool} {fs : List (Nat × Nat × Bool)} {al : Option Nat} {ky : TypeId} {ki : Option IntKind} {st : Bool} {z : List D} {c : D} {cs : List D} :
    oLoad (some ⟨1, b, false, fs, el, al, isS, isM, ky, ki, st, z⟩) (.d (.ptr (c :: cs))) H = some (.d c, H) := by simp [oLoad, AV.ofCells]
theorem oLoad_dn {n b el : Nat} {isS isM : Bool} {fs : List (Nat × Nat × Bool)} {al : Option Nat} {ky : TypeId} {ki : Option IntKind} {st : Bool} {z : List D} {cs : List D} (h : n ≤ cs.length) :
    oLoad (some ⟨n, b, true, fs, el, al, isS, isM, ky, ki, st, z⟩) (.d (.ptr cs)) H = some (.agg ((cs.take n).map .d), H) := by simp [oLoad, AV.ofCells, h]
theorem hcells_zero {cs : List AV} {H : List HO} : hcells (.cells cs :: H) 0 = some cs := by rfl
theorem hcells_succ {o : HO} {n : Nat} {H : List HO} : hcells (o :: H) (n + 1) = hcells H n := by simp [hcells]
theorem oLoad_h1 {b el : Nat} {isS isM : Bool} {fs : List (Nat × Nat × Bool)} {al : Option Nat} {ky : TypeId} {ki : Option IntKind} {st : Bool} {z : List D} {id off : Nat} {cs : List AV} {c : AV} (hc : hcells H id = some cs) (hx : cs[off]? = some c) :
    oLoad (some ⟨1, b, false, fs, el, al, isS, isM, ky, ki, st, z⟩) (.ptr id off) H = some (c, H) := by
  have hlt := (List.getElem?_eq_some_iff.1 hx).1
  have : (cs.drop off).take 1 = [c] := by
    rw [List.take_one, List.head?_drop, hx]; rfl
  simp [oLoad, hc, AV.ofCells, this]; omega
theorem oLoad_hn {n b el : Nat} {isS isM : Bool} {fs : List (Nat × Nat × Bool)} {al : Option Nat} {ky : TypeId} {ki : Option IntKind} {st : Bool} {z : List D} {id off : Nat} {cs : List AV} (hc : hcells H id = some cs) (hx : off + n ≤ cs.length) :
    oLoad (some ⟨n, b, true, fs, el, al, isS, isM, ky, ki, st, z⟩) (.ptr id off) H = some (.agg ((cs.drop off).take n), H) := by simp [oLoad, hc, hx, AV.ofCells]
theorem oStore_agg {n b el : Nat} {ag isS isM : Bool} {fs : List (Nat × Nat × Bool)} {al : Option Nat} {ky : TypeId} {ki : Option IntKind} {st : Bool} {z : List D} {id off : Nat} {cs new : List AV} (hc : hcells H id = some cs) (hnew : new.all AV.one = true) (hn : new.length = n) (hx : off + n ≤ cs.length) :
    oStore (some ⟨n, b, ag, fs, el, al, isS, isM, ky, ki, st, z⟩) (.ptr id off) (.agg new) H = some (.tup [], H.set id (.cells (splice cs off new))) := by
  simp only [oStore, AV.cells?, hnew, if_true, hc]
  rw [if_pos ⟨hn, hx⟩]
theorem oStore_d {b el : Nat} {ag isS isM : Bool} {fs : List (Nat × Nat × Bool)} {al : Option Nat} {ky : TypeId} {ki : Option IntKind} {st : Bool} {z : List D} {id off : Nat} {cs : List AV} {x : D} (hc : hcells H id = some cs) (hx : off < cs.length) :
    oStore (some ⟨1, b, ag, fs, el, al, isS, isM, ky, ki, st, z⟩) (.ptr id off) (.d x) H = some (.tup [], H.set id (.cells (cs.set off (.d x)))) := by
  simp only [oStore, AV.cells?, hc]
  rw [if_pos ⟨rfl, hx⟩]
  congr 4
  simp [splice, List.set_eq_take_append_cons_drop, hx]
theorem map_d_one (l : List D) : (l.map AV.d).all AV.one = true := by simp [AV.one]

attribute [go_sem] res_ok resv_ok obnd_ok awp_skip awp_exit awp_ret awp_region awp_seq awp_block awp_cond athen_normal athen_exit athen_ret ablk_normal ablk_exit ablk_ret aRun_nil aRun_plain
  aput_some aput_none aev_tmp aev_const aev_func absV_int absV_bool aOp_move aOp_assign aOp_pick aOp_alloc aOp_box aOp_build aOp_buildSlice aOp_load aOp_store aOp_nilCheck aOp_unOp aOp_convert aOp_makeFunc aOp_slice
  aOp_fieldAddr aOp_field aOp_indexAddr aOp_index aOp_extract aOp_len aOp_append aOp_call aOp_binOp nxt_run gwd_yes gwd_tf gwd_ft gwd_un cnd_true cnd_false binK_no binK_bool binK_ptr binK_fn oBin_int oBin_str iBin_add iBin_sub iBin_mul iBin_eql iBin_neq iBin_lss iBin_leq iBin_gtr iBin_geq sBin_eql sBin_neq sBin_lss sBin_gtr sBin_leq sBin_geq oLen_sl oLen_vec oLen_str oLoad_d1 hcells_zero hcells_succ

theorem aret_ret {rs : List ResultVar} {N : Nat} {R : AV → List HO → Prop} {ts : List AV} {H : List HO} : aret P rs N R .ret ts H = obnd (ares P rs ts H) fun x => ∃ x' H', Weak N [x] H [x'] H' ∧ R x' H' := by rfl
theorem aret_normal {rs : List ResultVar} {N : Nat} {R : AV → List HO → Prop} {ts : List AV} {H : List HO} : aret P rs N R .normal ts H = obnd (ares P rs ts H) fun x => ∃ x' H', Weak N [x] H [x'] H' ∧ R x' H' := by rfl
/-- the results -/
theorem ret_ok {rs : List ResultVar} {N : Nat} {R : AV → List HO → Prop} {ts : List AV} {H : List HO} {x : AV} (hx : ares P rs ts H = some x) (x' : AV) (H' : List HO) (hw : Weak N [x] H [x'] H') (hr : R x' H') : aret P rs N R .ret ts H := by
  rw [aret_ret, hx]; exact ⟨x', H', hw, hr⟩
theorem ret_ok' {rs : List ResultVar} {N : Nat} {R : AV → List HO → Prop} {ts : List AV} {H : List HO} {x : AV} (hx : ares P rs ts H = some x) (x' : AV) (H' : List HO) (hw : Weak N [x] H [x'] H') (hr : R x' H') : aret P rs N R .normal ts H := by
  rw [aret_normal, hx]; exact ⟨x', H', hw, hr⟩

theorem ite_t {α : Type} {a b : α} : (if True then a else b) = a := by simp
theorem ite_f {α : Type} {a b : α} : (if False then a else b) = b := by simp
theorem iteP_t {a b : Prop} : (if True then a else b) = a := by simp
theorem iteP_f {a b : Prop} : (if False then a else b) = b := by simp
theorem ares1_tmp {t : Tmp} {ts : List AV} {H : List HO} : ares1 P (.tmp t) ts H = some (aev ts (.tmp t)) := by rfl
theorem ares1_cell {a : Tmp} {t : TypeId} {ts : List AV} {H : List HO} : ares1 P (.cell a t) ts H = (oLoad (tinfo P t) (aev ts (.tmp a)) H).map (·.1) := by rfl
attribute [go_sem] ite_t ite_f iteP_t iteP_f eq_self Bool.not_true Bool.not_false Option.map_none
attribute [go_sem] List.set_cons_zero List.set_cons_succ List.getElem?_cons_zero List.getElem?_cons_succ Option.getD_some List.length_map Option.map_some

theorem aOp_makeMap {m : Bool} {t : TypeId} {ts : List AV} {K : AV → List HO → Prop} : aOp P m (.makeMap t none) ts H K = K (.map H.length) (H ++ [.map 0 []]) := by rfl
theorem aOp_lookup {m : Bool} {t : TypeId} {a k : Operand} {ok : Bool} {ts : List AV} {K : AV → List HO → Prop} : aOp P m (.lookup t a k ok) ts H K = obnd (tinfo P t) fun ti => ti.isMap = true ∧ res (oLookup (mapK P t) (tinfo P ti.elem) ok (aev ts a) (aev ts k) H) K := by rfl
theorem aOp_mapUpdate {m : Bool} {t : TypeId} {a k x : Operand} {ts : List AV} {K : AV → List HO → Prop} : aOp P m (.mapUpdate t a k x) ts H K = obnd (tinfo P t) fun ti => ti.isMap = true ∧ res (oMapUpdate (mapK P t) (aev ts a) (aev ts k) (aev ts x) H) K := by rfl
theorem aOp_insert {m : Bool} {t : TypeId} {a k x : Operand} {ts : List AV} {K : AV → List HO → Prop} : aOp P m (.insert t a k x) ts H K = obnd (tinfo P t) fun ti => ti.isMap = true ∧ res (oMapUpdate (mapK P t) (aev ts a) (aev ts k) (aev ts x) H) K := by rfl
theorem aOp_range {m : Bool} {t : TypeId} {a : Operand} {ts : List AV} {K : AV → List HO → Prop} : aOp P m (.range t a) ts H K = obnd (tinfo P t) fun ti => ti.isMap = true ∧ res (oRange (aev ts a) H) K := by rfl
theorem aOp_next {m : Bool} {a : Operand} {ts : List AV} {K : AV → List HO → Prop} : aOp P m (.next a false) ts H K = aNext (aev ts a) H K := by rfl
theorem aOp_entry {m : Bool} {a : Operand} {ts : List AV} {K : AV → List HO → Prop} : aOp P m (.entry a) ts H K = aEntry (aev ts a) H K := by rfl
theorem aOp_delete {m : Bool} {t t2 : TypeId} {x y : Operand} {ts : List AV} {K : AV → List HO → Prop} : aOp P m (.call ⟨.builtin .delete, #[x, y], #[t, t2]⟩) ts H K =
  obnd (tinfo P t) fun ti => ti.isMap = true ∧ res (oDelete (mapK P t) (aev ts x) (aev ts y) H) K := by rfl
theorem awp_rangeFunc {m : Bool} {N : Nat} {g : Operand} {ps : Array Tmp} {a c : Code} {Q : AQ} {ts : List AV} {H : List HO} : awp P m N (.rangeFunc g ps a c) Q ts H = aRange P (aev ts g) ts ps a c Q H := by rfl
theorem aRange_fn {gf : FuncId} {capt ts : List AV} {ps : Array Tmp} {a c : Code} {Q : AQ} {H : List HO} : aRange P (.fn (.func gf) [] capt) ts ps a c Q H = ACalls P gf (.iter H.length :: capt) (H ++ [.loop .ready none ts ps a c]) (fun _ H2 => aLeft H.length ts ps a c Q H2) := by rfl
attribute [go_sem] awp_rangeFunc aRange_fn
attribute [go_sem] aOp_makeMap aOp_lookup aOp_mapUpdate aOp_insert aOp_range aOp_next aOp_entry aOp_delete


end Go.Proofs.YthhmioodienlmaaGreatDoor

/- The abstract machine, part 18: loops; calls of functions that touch no object of the caller's. -/
namespace Go.Proofs.YthhmioodienlmaaGreatDoor
open Go

variable {P : Program} {G : List GI} {T : Tips} {K : Kmem} {w : World} {H H' : List HO}

theorem awp_mono {m : Bool} {N : Nat} : ∀ (c : Code) {Q Q' : AQ} {ts : List AV} {H : List HO}, awp P m N c Q ts H → (∀ e ts H, Q e ts H → Q' e ts H) → awp P m N c Q' ts H
  | .skip, Q, Q', ts, H, h, hq => hq _ _ _ h
  | .label _, Q, Q', ts, H, h, hq => hq _ _ _ h
  | .exit _, Q, Q', ts, H, h, hq => hq _ _ _ h
  | .ret, Q, Q', ts, H, h, hq => hq _ _ _ h
  | .region id ops d, Q, Q', ts, H, h, hq => by
    have hops : ∀ (l : List Nat) ts H, aOps P m ops Q l ts H → aOps P m ops Q' l ts H := by
      intro l
      induction l with
      | nil => intro ts H h; simp only [aOps] at h ⊢; exact hq _ _ _ h
      | cons i l ih =>
        intro ts H h
        simp only [aOps] at h ⊢
        cases ho : ops[i]? with
        | none => rw [ho] at h; exact ih _ _ h
        | some o =>
          rw [ho] at h
          exact aWant_mono h (fun h => aOp_mono h fun v H' h => ih _ _ h) (fun h => ih _ _ h)
    have hrun : ∀ (l : List Oper) ts H, aRun P m ops Q l ts H → aRun P m ops Q' l ts H := by
      intro l
      induction l with
      | nil => intro ts H h; simp only [aRun] at h ⊢; exact hq _ _ _ h
      | cons o l ih =>
        intro ts H h
        simp only [aRun] at h ⊢
        exact aWant_mono h (fun h => aOp_mono h fun v H' h => ih _ _ h) (fun h => ih _ _ h)
    cases d with
    | false => simp only [awp] at h ⊢; exact hrun _ _ _ h
    | true => simp only [awp] at h ⊢; exact fun t => hops _ _ _ (h t)
  | .seq a b, Q, Q', ts, H, h, hq => by
    simp only [awp] at h ⊢
    exact awp_mono a h fun e ts H h => by
      cases e with
      | normal => exact awp_mono b h hq
      | _ => exact hq _ _ _ h
  | .cond c a b, Q, Q', ts, H, h, hq => by
    simp only [awp, abr] at h ⊢
    split at h
    · exact ⟨fun e => awp_mono a (h.1 e) hq, fun e => awp_mono b (h.2 e) hq⟩
    · exact h
  | .block id c, Q, Q', ts, H, h, hq => by
    simp only [awp] at h ⊢
    exact awp_mono c h fun e ts H h => by
      cases e with
      | exit i =>
        simp only [ablk] at h ⊢
        split at h
        · rename_i hi; rw [if_pos hi]; exact hq _ _ _ h
        · rename_i hi; rw [if_neg hi]; exact hq _ _ _ h
      | _ => exact hq _ _ _ h
  | .loop c, Q, Q', ts, H, h, hq => by
    simp only [awp] at h ⊢
    intro I hI
    refine h I fun ts H ts' H' hw hb => hI ts H ts' H' hw (awp_mono c hb fun e ts H h => ?_)
    cases e with
    | normal => exact h
    | _ => exact hq _ _ _ h
  | .rangeFunc g ps a c, Q, Q', ts, H, h, hq => by
    simp only [awp] at h ⊢
    unfold aRange at h ⊢
    split at h
    · refine ACalls.mono h fun x H2 ⟨st, j, lts, h1, h2, h3⟩ => ⟨st, j, lts, h1, h2, ?_⟩
      split at h3
      · exact hq _ _ _ h3
      · exact hq _ _ _ h3
      · exact hq _ _ _ h3
      · exact h3
    · exact h
  | .scope _, _, _, _, _, h, _ => h.elim
  | .goto _, _, _, _, _, h, _ => h.elim
  | .refuse _, _, _, _, _, h, _ => h.elim

/-- one more round -/
theorem awp_round {m : Bool} {N : Nat} {c : Code} {Q : AQ} {ts ts' : List AV} {H H' : List HO} (hw : Weak N ts H ts' H') (h : awp P m N c (athen (awp P m N (.loop c) Q) Q) ts' H') : awp P m N (.loop c) Q ts H := by
  simp only [awp]
  intro I hI
  refine hI ts H ts' H' hw (awp_mono c h fun e ts H h => ?_)
  cases e with
  | normal => simp only [athen, awp] at h ⊢; exact h I hI
  | _ => exact h

/-- a loop, by an invariant with a number that grows less -/
theorem awp_inv {m : Bool} {N : Nat} {c : Code} {Q : AQ} {ts : List AV} {H : List HO} (J : Nat → List AV → List HO → Prop) (k : Nat) (h0 : ∃ ts' H', Weak N ts H ts' H' ∧ J k ts' H')
    (hs : ∀ k ts H, J k ts H → awp P m N c (athen (fun ts' H' => ∃ k' ts'' H'', k' < k ∧ Weak N ts' H' ts'' H'' ∧ J k' ts'' H'') Q) ts H) : awp P m N (.loop c) Q ts H := by
  have key : ∀ k ts H ts' H', Weak N ts H ts' H' → J k ts' H' → awp P m N (.loop c) Q ts H := by
    intro k
    induction k using Nat.strongRecOn with
    | ind k ih =>
      intro ts H ts' H' hw hj
      refine awp_round hw (awp_mono c (hs k ts' H' hj) fun e ts2 H2 h => ?_)
      cases e with
      | normal =>
        obtain ⟨k', ts3, H3, hk, hw', hj'⟩ := h
        exact ih k' hk ts2 H2 ts3 H3 hw' hj'
      | _ => exact h
  obtain ⟨ts', H', hw, hj⟩ := h0
  exact key k ts H ts' H' hw hj

/-- in the middle -/
theorem awp_mid {m : Bool} {N : Nat} {a b : Code} {Q : AQ} {ts : List AV} {H : List HO} (I : List AV → List HO → Prop) (h1 : awp P m N a (athen I Q) ts H) (h2 : ∀ ts H, I ts H → awp P m N b Q ts H) : awp P m N (.seq a b) Q ts H := by
  simp only [awp]
  refine awp_mono a h1 fun e ts H h => ?_
  cases e with
  | normal => exact h2 _ _ h
  | _ => exact h

/-! ### pure values -/
mutual
def D.norm : D → D
  | .bool b => .bool b
  | .int k n => .int k n
  | .str s => .str s
  | .con v => .con v
  | .sl _ es => .sl false (D.normE es)
  | .ptr cs => .ptr (D.normL cs)
def D.normL : List D → List D
  | [] => []
  | c :: cs => D.norm c :: D.normL cs
def D.normE : List (List D) → List (List D)
  | [] => []
  | e :: es => D.normL e :: D.normE es
end

theorem D.normL_length : ∀ l : List D, (D.normL l).length = l.length
  | [] => rfl
  | c :: cs => by simp only [D.normL, List.length_cons, D.normL_length cs]

theorem D.normE_spec : ∀ l : List (List D), (D.normE l).length = l.length ∧ ∀ sz, (∀ e ∈ l, e.length = sz) → ∀ e ∈ D.normE l, e.length = sz
  | [] => ⟨rfl, fun sz h => by simp [D.normE]⟩
  | e :: es => by
    obtain ⟨h1, h2⟩ := D.normE_spec es
    refine ⟨by simp only [D.normE, List.length_cons, h1], fun sz h => ?_⟩
    intro x hx
    simp only [D.normE, List.mem_cons] at hx
    rcases hx with rfl | hx
    · rw [D.normL_length]; exact h e (by simp)
    · exact h2 sz (fun y hy => h y (by simp [hy])) x hx

mutual
theorem RelD.norm : ∀ (x : D) (v : Value), RelD K x v → RelD K x.norm v
  | .bool _, _, r => by simpa only [D.norm] using r
  | .int _ _, _, r => by simpa only [D.norm] using r
  | .str _, _, r => by simpa only [D.norm] using r
  | .con _, _, r => by simpa only [D.norm] using r
  | .sl c es, v, r => by
    simp only [RelD, D.norm] at r ⊢
    obtain ⟨a, n, cap, h1, h2, h3, h4, h5, h6, h7⟩ := r
    refine ⟨a, n, cap, h1, by rw [(D.normE_spec es).1]; exact h2, h3, (fun h => by cases h), h5, h6, fun ad e => ⟨(h7 ad e).1, ?_, RelEs.norm es _ _ (h7 ad e).2.2⟩⟩
    obtain ⟨sz, hsz⟩ := (h7 ad e).2.1
    exact ⟨sz, (D.normE_spec es).2 sz hsz⟩
  | .ptr cs, v, r => by
    simp only [RelD, D.norm] at r ⊢
    obtain ⟨b, o, h1, h2⟩ := r
    exact ⟨b, o, h1, RelCs.norm cs _ _ h2⟩
theorem RelCs.norm : ∀ (cs : List D) (b o : Nat), RelCs K b o cs → RelCs K b o (D.normL cs)
  | [], _, _, _ => by simp only [D.normL, RelCs]
  | c :: cs, b, o, r => by
    simp only [RelCs, D.normL] at r ⊢
    obtain ⟨⟨v, h1, h2⟩, h3⟩ := r
    exact ⟨⟨v, h1, RelD.norm c v h2⟩, RelCs.norm cs _ _ h3⟩
theorem RelEs.norm : ∀ (es : List (List D)) (b o : Nat), RelEs K b o es → RelEs K b o (D.normE es)
  | [], _, _, _ => by simp only [D.normE, RelEs]
  | e :: es, b, o, r => by
    simp only [RelEs, D.normE] at r ⊢
    exact ⟨RelCs.norm e _ _ r.1, by rw [D.normL_length]; exact RelEs.norm es _ _ r.2⟩
end

/-! as pure data, if it is, in normal form -/
mutual
def AV.pure? : AV → Option AV
  | .d x => some (.d x.norm)
  | .vec _ _ es => some (.d (.sl false (D.normE es)))
  | .agg cs => (AV.pures? cs).map .agg
  | .tup cs => (AV.pures? cs).map .tup
  | _ => none
def AV.pures? : List AV → Option (List AV)
  | [] => some []
  | c :: cs => (AV.pure? c).bind fun x => (AV.pures? cs).map (x :: ·)
end

mutual
theorem pure_rel {G' : List GI} {T' : Tips} : ∀ (a x : AV) (v : Value), a.pure? = some x → RelA G T K a v → RelA G' T' K x v
  | .d y, x, v, h, r => by
    simp only [AV.pure?, Option.some.injEq] at h; subst h
    simp only [RelA] at r ⊢; exact RelD.norm y v r
  | .vec _ _ es, x, v, h, r => by
    simp only [AV.pure?, Option.some.injEq] at h; subst h
    simp only [RelA] at r ⊢
    have := RelD.norm _ v r.1
    simpa only [D.norm] using this
  | .agg cs, x, v, h, r => by
    simp only [AV.pure?, Option.map_eq_some_iff] at h
    obtain ⟨xs, h, rfl⟩ := h
    simp only [RelA] at r ⊢
    obtain ⟨vs, e, r⟩ := r
    exact ⟨vs, e, pures_rel cs xs _ h r⟩
  | .tup cs, x, v, h, r => by
    simp only [AV.pure?, Option.map_eq_some_iff] at h
    obtain ⟨xs, h, rfl⟩ := h
    simp only [RelA] at r ⊢
    obtain ⟨vs, e, r⟩ := r
    exact ⟨vs, e, pures_rel cs xs _ h r⟩
  | .ptr _ _, _, _, h, _ | .fn _ _ _, _, _, h, _ | .map _, _, _, h, _ | .iter _, _, _, h, _ | .arr _ _ _ _, _, _, h, _ | .row _ _, _, _, h, _ | .rp _ _ _ _ _, _, _, h, _ | .any, _, _, h, _ => by simp only [AV.pure?] at h; cases h
theorem pures_rel {G' : List GI} {T' : Tips} : ∀ (a x : List AV) (v : List Value), AV.pures? a = some x → RelAs G T K a v → RelAs G' T' K x v
  | [], x, v, h, r => by
    simp only [AV.pures?, Option.some.injEq] at h; subst h
    simp only [RelAs] at r ⊢; exact r
  | c :: cs, x, v, h, r => by
    simp only [AV.pures?, Option.bind_eq_some_iff, Option.map_eq_some_iff] at h
    obtain ⟨y, h1, ys, h2, rfl⟩ := h
    simp only [RelAs] at r ⊢
    obtain ⟨u, ws, e, r1, r2⟩ := r
    exact ⟨u, ws, e, pure_rel c y u h1 r1, pures_rel cs ys ws h2 r2⟩
end

/-! nothing of the heap in it -/
mutual
def AV.free : AV → Bool
  | .d _ | .any => true
  | .agg cs | .tup cs => AV.frees cs
  | .fn _ a c => AV.frees a && AV.frees c
  | _ => false
def AV.frees : List AV → Bool
  | [] => true
  | c :: cs => AV.free c && AV.frees cs
end

mutual
theorem free_rel {G' : List GI} {T' : Tips} : ∀ (a : AV) (v : Value), a.free = true → RelA G T K a v → RelA G' T' K a v
  | .d y, v, _, r => by simp only [RelA] at r ⊢; exact r
  | .any, v, _, r => by simp only [RelA]
  | .agg cs, v, h, r => by
    simp only [AV.free] at h
    simp only [RelA] at r ⊢
    obtain ⟨vs, e, r⟩ := r
    exact ⟨vs, e, frees_rel cs _ h r⟩
  | .tup cs, v, h, r => by
    simp only [AV.free] at h
    simp only [RelA] at r ⊢
    obtain ⟨vs, e, r⟩ := r
    exact ⟨vs, e, frees_rel cs _ h r⟩
  | .fn f a c, v, h, r => by
    simp only [AV.free, Bool.and_eq_true] at h
    simp only [RelA] at r ⊢
    obtain ⟨vs, ws, e, r1, r2⟩ := r
    exact ⟨vs, ws, e, frees_rel a _ h.1 r1, frees_rel c _ h.2 r2⟩
  | .ptr _ _, _, h, _ | .vec _ _ _, _, h, _ | .map _, _, h, _ | .iter _, _, h, _ | .arr _ _ _ _, _, h, _ | .row _ _, _, h, _ | .rp _ _ _ _ _, _, h, _ => by simp [AV.free] at h
theorem frees_rel {G' : List GI} {T' : Tips} : ∀ (a : List AV) (v : List Value), AV.frees a = true → RelAs G T K a v → RelAs G' T' K a v
  | [], v, _, r => by simp only [RelAs] at r ⊢; exact r
  | c :: cs, v, h, r => by
    simp only [AV.frees, Bool.and_eq_true] at h
    simp only [RelAs] at r ⊢
    obtain ⟨u, ws, e, r1, r2⟩ := r
    exact ⟨u, ws, e, free_rel c u h.1 r1, frees_rel cs ws h.2 r2⟩
end

theorem not_inB_nil {b : Nat} : ¬ inB [] b := by rintro ⟨i, g, h, _⟩; simp at h

/-- the frame: what was built without the caller's objects stands beside them -/
theorem Inv.beside (hI : Inv G K w H) {G1 : List GI} {K1 : Kmem} {w1 : World} {H1 : List HO} (hI1 : Inv G1 K1 w1 H1) (hp : Post 0 [] (tipsOf []) K w G1 (tipsOf H1) K1 w1) :
    Inv G K1 w1 H ∧ Post G.length G (tipsOf H) K w G (tipsOf H) K1 w1 := by
  have hsame : ∀ b, inB G b → w1.heap[b]? = w.heap[b]? := fun b hb => hp.same b (hI.lt_of_block hb) not_inB_nil
  refine ⟨⟨hI1.agree, hI1.glob, hI.len, fun i o g ho hg => ?_, hI.apart, hI.walks⟩, ⟨Nat.le_refl _, Evo.refl _ _ _, hp.kle, fun b o v h1 h2 => ?_, fun b hb => .inl hb, hp.size, fun b hb _ => hp.same b hb not_inB_nil, hp.os, hp.out, hp.tape⟩⟩
  · refine (hI.obj i o g ho hg).conv (fun b hb => hsame b ⟨i, g, hg, hb⟩) (fun b hb p hn => ?_) (fun a v r => r.evo hp.kle (Evo.refl _ _ _)) (fun j b bs h => ⟨bs, h⟩)
    cases hk : K1 b p with
    | none => rfl
    | some v =>
      rcases hp.knew b p v hk hn with h | h
      · have := hI.lt_of_block ⟨i, g, hg, hb⟩; omega
      · exact absurd h not_inB_nil
  · rcases hp.knew b o v h1 h2 with h | h
    · exact .inl h
    · exact absurd h not_inB_nil

theorem Inv.none (hI : Inv G K w H) : Inv [] K w [] :=
  ⟨hI.agree, hI.glob, rfl, fun i o g h => by simp at h, fun i j gi gj b h => by simp at h, fun i m ck es todo cur it snap ck' es' b bs h => by simp at h⟩

/-- a contract without objects, used by a caller that has some -/
theorem ACalls.pure {f : FuncId} {as ps : List AV} {R R' : AV → List HO → Prop} (h : ACalls P f ps [] R) (hp : AV.pures? as = some ps) (hr : ∀ x H1, R x H1 → x.free = true ∧ R' x H) : ACalls P f as H R' := by
  refine ⟨h.1, fun G K w vs hI ha => (h.2 [] K w vs hI.none (pures_rel _ _ _ hp ha)).mono fun e w' ⟨v, he, x, G1, K1, H1, h1, h2, h3, h4⟩ => ⟨v, he, ?_⟩⟩
  obtain ⟨j1, j2⟩ := hI.beside h3 h4
  obtain ⟨hf, hR⟩ := hr x H1 h1
  exact ⟨x, G, K1, H, hR, free_rel x v hf h2, j1, j2⟩

/-- pure values need no objects: they are forgotten -/
theorem Weak.pures {ts ps : List AV} (h : AV.pures? ts = some ps) (hf : AV.frees ps = true) : Weak 0 ts H ps [] := fun G K w vs hI hr _ => by
  refine ⟨[], K, hI.none, pures_rel _ _ _ h hr, ⟨Nat.zero_le _, fun i hi => absurd hi (Nat.not_lt_zero _), Kle.refl _, (fun b o v h1 h2 => by rw [h1] at h2; cases h2), fun b hb => absurd hb not_inB_nil, Nat.le_refl _, fun _ _ _ => rfl, rfl, rfl, rfl⟩⟩

end Go.Proofs.YthhmioodienlmaaGreatDoor
