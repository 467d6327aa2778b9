/- The card of WellformedTypes (second form). -/
import Derived.Test.YthhmioodienlmaaGreatDoorKM
import Derived.Test.YthhmioodienlmaaGreatDoorKN
import Derived.Test.YthhmioodienlmaaGreatDoorCards
import Derived.Test.YthhmioodienlmaaGreatDoorTie
set_option linter.unusedSimpArgs false
set_option linter.unusedVariables false
namespace Go.Proofs.YthhmioodienlmaaGreatDoor.Wft
open Go Go.ChangeShapes Go.WideShapes Go.ChangeAt Go.RowKit

abbrev fid : FuncId := 3
noncomputable abbrev fn := Tryz.f3
theorem hfn : Tryz.prog.funcs[fid]? = some fn := Tryz.func3
theorem hpar : fn.params = #[23, 24, 28] := by kernel_rfl
theorem uTy : structIs 28 [(3, 0), (9, 1), (9, 2), (25, 3), (26, 4)] = true := by kernel_rfl

set_option maxRecDepth 100000 in
theorem contract (H : Type) (enc : TypeId × Value → H) (W : World) (base : Nat) (args : Array Value) (ds gs : List (DataW H)) (before : List MemPlace)
    (hval : ∀ (j : Nat) t v, fn.params[j]? = some t → args[j]? = some v → Value.okWide Tryz.prog W .any base t v)
    (hW : DataW.Whole enc Tryz.prog fn.params.toList Rows.wellformedTypesSpec.vars false W args.toList ds gs before)
    (hb : Rows.uptoSmall H (ds ++ gs) = true) (hsh : W.ShapedOpen Tryz.prog) :
    Calls Tryz.prog fid args W fun e W' => ∃ v, e = .returned v ∧ Rows.wellformedTypesSpec.post enc Tryz.prog fn false true false false W args v W' := by
  have hW' := hW
  have hlt := hW.lt
  obtain ⟨p, q, hA0, hV, rfl, _, _⟩ := hW
  have hA : DataW.TrodAll enc Tryz.prog W 0 (fun _ => true) true fn.params.toList args.toList ds p := hA0
  have hAk := hA
  rw [hpar] at hA hval
  obtain ⟨v0, v1, v2, d0, d1, d2, p0, p1, p2, rfl, rfl, rfl, ⟨n0, h0⟩, ⟨n1, h1⟩, ⟨n2, h2⟩⟩ := trodAll_three hA
  obtain ⟨rfl, rfl⟩ := trodVars_none hV
  clear hA0
  have hb := of_decide_eq_true hb
  simp only [List.append_nil, Rows.uptoBulkAll] at hb
  obtain ⟨a0, l0, c0, rfl⟩ := okWide_slice uEnv (hval 0 _ v0 rfl rfl)
  obtain ⟨a1, l1, c1, rfl⟩ := okWide_slice usStr (hval 1 _ v1 rfl rfl)
  have h2s := h2
  obtain ⟨xs, m, _, _, hl2, _⟩ := trod_struct' uTy h2s
  obtain ⟨env, r0, w0⟩ := rd_env n0 _ _ h0 (by dsimp only; omega)
  obtain ⟨vars, r1, w1⟩ := rd_strs n1 _ _ h1 (by dsimp only; omega)
  obtain ⟨t, r2, w2⟩ := rd_ty n2 _ _ h2 (by dsimp only; omega)
  dsimp only at w0 w1 w2
  have hagg : ∃ vs, v2 = .agg vs := by
    have := hval 2 _ v2 rfl rfl
    have hu : ∃ fs, Tryz.prog.underlying 28 = some (.struct fs) := by
      have := uTy
      unfold structIs at this
      split at this
      · rename_i fs h; exact ⟨fs, h⟩
      · cases this
    obtain ⟨fs, hu⟩ := hu
    obtain ⟨cs, e, _⟩ := okWide_struct hu this
    exact ⟨cs, e⟩
  obtain ⟨vs2, rfl⟩ := hagg
  simp only [Value.cells] at r0 r1 r2
  have hvars : vars.length ≤ 1048576 := by
    have := len_le_wt (f := fun s : Str => s.length + 1) (l := vars) (fun _ => by omega)
    omega
  have henv : Env.wt env ≤ 1048576 := by omega
  have walk := (law_types awake8 env vars t (Env.good_of henv) (by have := envSize_wt env; omega) hvars (Ty.good_of (by omega))).2 [] (kOf W) W #[.slice a0 l0 c0, .slice a1 l1 c1, .agg vs2] (inv_of hsh) (by
    simp only [RelAs, RelA]
    simp only [RelL] at r0 r1
    obtain ⟨_, _, e0, r0, rfl⟩ := r0
    obtain ⟨_, _, e1, r1, rfl⟩ := r1
    cases e0; cases e1
    exact ⟨_, _, rfl, r0, _, _, rfl, r1, _, _, rfl, ⟨vs2, rfl, r2.as⟩, rfl⟩)
  refine walk.mono fun e W' ⟨v, he, x, G', K', H', hx, hr, hI, hP⟩ => ?_
  subst hx
  simp only [RelA, RelD] at hr
  subst hr
  subst he
  have hsame : ∀ b, b < W.heap.size → W'.heap[b]? = W.heap[b]? := fun b hb => hP.same b hb (by rintro ⟨i, g, h, _⟩; simp at h)
  refine ⟨_, rfl, post_same (pa := _) (pv := []) hW' (fun _ _ _ => trodAll_cons_mk (shut_bool Tryz.underlying4 _) trodAll_mk0) (fun sp hsp => ?_) (fun _ _ => rfl) rfl hsame hP.os hP.out (ok_one (by kernel_rfl) rfl (okWide_bool_mk Tryz.underlying4 _))⟩
  refine trodAll_carry (DataW.TrodAll.respare kids full (by rw [hpar]; decide +kernel) hAk fun p hp => hsp p (by simpa using hp)) fun p hp => sameAt_of (hsame _ (hlt p (by simpa using hp)))

theorem laid_met (os : Os) : laidMet Tryz.prog Rows.wellformedTypesUptoRow.laid ((laidWorld os).forCall (fun _ _ => 0) ⟨#[], #[.slice none 0 0, .slice none 0 0, .agg #[.int .i64 0, .string ⟨#[]⟩, .string ⟨#[]⟩, .slice none 0 0, .slice none 0 0]], []⟩).memory :=
  laidMet_of_run3 8 (by kernel_rfl) (by kernel_rfl) (by kernel_rfl)
theorem reads (os : Os) {H : Type} (enc : TypeId × Value → H) : ∃ places, DataW.whole enc Tryz.prog ((laidWorld os).forCall (fun _ _ => 0) ⟨#[], #[.slice none 0 0, .slice none 0 0, .agg #[.int .i64 0, .string ⟨#[]⟩, .string ⟨#[]⟩, .slice none 0 0, .slice none 0 0]], []⟩).memory fn.params.toList Rows.wellformedTypesSpec.vars false
    #[Value.slice none 0 0, .slice none 0 0, .agg #[.int .i64 0, .string ⟨#[]⟩, .string ⟨#[]⟩, .slice none 0 0, .slice none 0 0]].toList 8 = some ([.nil, .nil, .agg [.lit (.int .i64 0), .lit (.string []), .lit (.string []), .nil, .nil]], [], places) :=
  ⟨[], by kernel_rfl⟩

set_option maxRecDepth 100000 in
theorem lifted (os : Os) (started : os.Started) (H : Type) (enc : TypeId × Value → H) (F : Stop.Interp) :
    ReturnsInHanded {} Tryz.checked os fid .any ((Rows.OpenSpec.upto Rows.wellformedTypesSpec).preRow enc Tryz.prog fn Rows.wellformedTypesUptoRow.domain false Rows.wellformedTypesUptoRow.laid) (((Rows.OpenSpec.upto Rows.wellformedTypesSpec).at F).post enc Tryz.prog fn false true false false) := by
  obtain ⟨places, hx⟩ := reads os enc
  refine returnsInHanded_of_row (C := Tryz.checked) (s := Rows.OpenSpec.upto Rows.wellformedTypesSpec) own started (by kernel_rfl) hfn
    (witness_row_at (enc := enc) (C := Tryz.checked) false (laidWorld os) #[.slice none 0 0, .slice none 0 0, .agg #[.int .i64 0, .string ⟨#[]⟩, .string ⟨#[]⟩, .slice none 0 0, .slice none 0 0]] rfl (by kernel_rfl) (by kernel_rfl) (by kernel_rfl)
      (OpenSpec.preRow_of_cond 8 hx (by kernel_rfl) (fun k hk => by cases hk; kernel_rfl) (by kernel_rfl) (laid_met os))) ?_
  intro W base args ds gs before hval hW _ hcond _ _ hsh _
  exact contract H enc W base args ds gs before hval hW (hcond _ rfl) hsh

set_option maxRecDepth 100000 in
theorem saidUpto : Rows.WellformedTypesUptoSaid :=
  OpenClaim.holds_of_cond fid fn rfl rfl rfl rfl rfl rfl rfl ⟨rfl, rfl, rfl, rfl, rfl⟩ rfl rfl rfl rfl rfl (by kernel_rfl) hfn (by kernel_rfl)
    (of_decide_eq_true (by kernel_rfl)) (by unfold Func.isWrapper; first | (rw [if_pos (by decide +kernel)]; kernel_rfl) | (rw [if_neg (by decide +kernel)]; exact ⟨rfl, rfl⟩))
    (fun os started H enc _ F => by rw [OpenClaim.pre_eq_preRow]; exact lifted os started H enc F)

theorem plain (f : FuncId) (g : Func) (hf : Tryz.pinned.checked.prog.funcNamed "modcert/modcertlaw08.WellformedTypes" = some f) (hg : Tryz.pinned.checked.prog.funcs[f]? = some g) :
    false = Tryz.pinned.checked.prog.looks [] ∧ ∀ (j : Nat) t, g.params[j]? = some t → Tryz.pinned.checked.prog.wantsStandIn t = false := by
  obtain rfl : f = fid := Option.some.inj ((show Tryz.prog.funcNamed "modcert/modcertlaw08.WellformedTypes" = some fid by kernel_rfl).symm.trans hf) |>.symm
  obtain rfl : g = fn := (Option.some.inj (hfn.symm.trans hg)).symm
  refine ⟨by kernel_rfl, fun j t ht => ?_⟩
  rw [hpar] at ht
  have := Array.mem_of_getElem? ht
  simp only [List.mem_toArray, List.mem_cons, List.not_mem_nil, or_false] at this
  rcases this with rfl | rfl | rfl
  · exact (show Tryz.prog.wantsStandIn 23 = false by kernel_rfl)
  · exact (show Tryz.prog.wantsStandIn 24 = false by kernel_rfl)
  · exact (show Tryz.prog.wantsStandIn 28 = false by kernel_rfl)

theorem cardUpto : Rows.WellformedTypesUptoCardSaid :=
  Claim7.holds_tied_plain_at .later [] _ _ _ _ saidUpto (fun _ h => by cases h) (by kernel_rfl) (fun _ h => by cases h) wellformedTypesUpto_row_tie rfl ⟨rfl, rfl⟩ (by kernel_rfl) rfl plain (by kernel_rfl)
end Go.Proofs.YthhmioodienlmaaGreatDoor.Wft
