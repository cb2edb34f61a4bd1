/- THE LAW FidEncodes: for every entry and number the law answers true, and what came in reads as it did; the listed tables (of unicode/utf8) hold what their texts lay. -/
import Derived.Test.YtjmldlknegbimaaGreatDoorW1
import Derived.Test.YtjmldlknegbimaaGreatDoorW3
import Derived.Test.YtjmldlknegbimaaGreatDoorC11
set_option linter.unusedVariables false
set_option linter.unusedSimpArgs false
namespace Go.Proofs.YtjmldlknegbimaaGreatDoor.Sx
open Go Go.ChangeShapes Go.WideShapes Go.ChangeAt Go.RowKit

set_option maxRecDepth 100000 in
theorem contract_fidEncodes (H : Type) (enc : TypeId × Value → H) (W : World) (base : Nat) (args : Array Value) (ds gs : List (DataW H)) (before : List MemPlace)
    (hval : ∀ (j : Nat) t v, Tryz.f3.params[j]? = some t → args[j]? = some v → Value.okWide Tryz.prog W .any base t v)
    (hW : DataW.Whole enc Tryz.prog Tryz.f3.params.toList Rows.fidEncodesSpec.vars false W args.toList ds gs before) (hL : laidMetH Tryz.prog Rows.fidEncodesRow.laid W) :
    Calls Tryz.prog 3 args W fun e W' => ∃ v, e = .returned v ∧ Rows.fidEncodesSpec.post enc Tryz.prog Tryz.f3 false true false false W args v W' := by
  have hW' := hW
  obtain ⟨p, q, hA0, hV, rfl, hfz, hnd⟩ := hW
  have hA : DataW.TrodAll enc Tryz.prog W 0 (fun _ => true) true Tryz.f3.params.toList args.toList ds p := hA0
  rw [Tryz.params3] at hA hval
  obtain ⟨v0, vs0, d0, ds0, p0, q0, hargs, rfl, rfl, h0, r0⟩ := trodAll_cons hA
  obtain ⟨v1, vs1, d1, ds1, p1, q1, rfl, rfl, rfl, h1, r1⟩ := trodAll_cons r0
  obtain ⟨rfl, rfl, rfl⟩ := trodAll_nil r1
  obtain rfl : args = #[v0, v1] := by cases args; simp_all
  obtain ⟨rfl, rfl⟩ := trodVars_none hV
  obtain ⟨x0, y0, z0⟩ := arg_read bears57 h0 (hval 0 25 v0 rfl rfl)
  obtain ⟨x1, y1, z1⟩ := arg_read bears3 h1 (hval 1 3 v1 rfl rfl)
  obtain ⟨n0, rfl, w0⟩ := has_fid y0
  obtain ⟨n1, rfl, w1⟩ := y1
  refine (law_calls (G := GT) (l_encodes n0 n1) (gt_ok hL) rfl ?_).mono fun e W' ⟨he, hg⟩ => ?_
  · intro i hi
    match i, hi with
    | 0, _ => exact z0
    | 1, _ => exact z1
  · subst he
    exact ⟨_, rfl, law_post (tb := 4) rfl laidOut (by rw [Tryz.params3]; exact fun t ht => int_params t ((by decide : ∀ t ∈ [25, 3], t ∈ rowTypes) t ht)) rfl Tryz.underlying4 rfl rfl rfl hW' hg⟩

def args_fidEncodes : Array Value := #[.agg #[.string ⟨#[]⟩, .bool false, .bool false, .bool false, .bool false, .bool false, .int .i64 0, .int .i64 0, .int .i64 0], .int .i64 0]
theorem laid_met_fidEncodes (os : Os) : laidMet Tryz.prog Rows.fidEncodesRow.laid ((laidWorld os).forCall (fun _ _ => 0) ⟨#[], args_fidEncodes, []⟩).memory := laid_met os _
theorem reads_fidEncodes (os : Os) {H : Type} (enc : TypeId × Value → H) : ∃ places, DataW.whole enc Tryz.prog ((laidWorld os).forCall (fun _ _ => 0) ⟨#[], args_fidEncodes, []⟩).memory Tryz.f3.params.toList Rows.fidEncodesSpec.vars false args_fidEncodes.toList 8 = some ([.agg [.lit (.string []), .lit (.bool false), .lit (.bool false), .lit (.bool false), .lit (.bool false), .lit (.bool false), .agg [.lit (.int .i64 0), .lit (.int .i64 0)], .lit (.int .i64 0)], .lit (.int .i64 0)], [], places) :=
  ⟨[], by kernel_rfl⟩
set_option maxRecDepth 100000 in
theorem lifted_fidEncodes (os : Os) (started : os.Started) (H : Type) (enc : TypeId × Value → H) (F : Stop.Interp) :
    ReturnsInHanded {} Tryz.checked os 3 .any ((OpenSpec.ofChange Rows.fidEncodesSpec).preRow enc Tryz.prog Tryz.f3 Rows.fidEncodesRow.domain false Rows.fidEncodesRow.laid) (((OpenSpec.ofChange Rows.fidEncodesSpec).at F).post enc Tryz.prog Tryz.f3 false true false false) := by
  obtain ⟨places, hx⟩ := reads_fidEncodes os enc
  refine returnsInHanded_of_row (C := Tryz.checked) (s := OpenSpec.ofChange Rows.fidEncodesSpec) own started (by kernel_rfl) Tryz.func3
    (witness_row_at (enc := enc) (C := Tryz.checked) false (laidWorld os) args_fidEncodes rfl (world_vars os _) (world_rest os _) (by as_aux_lemma => kernel_rfl)
      (OpenSpec.preRow_of_cond 8 hx (by kernel_rfl) (fun k hk => by cases hk) (by kernel_rfl) (laid_met_fidEncodes os))) ?_
  intro W base args ds gs before hval hW _ _ _ hL _ _
  exact contract_fidEncodes H enc W base args ds gs before hval hW hL
theorem said_fidEncodes : Rows.FidEncodesSaid :=
  OpenClaim.holds_of_cond 3 Tryz.f3 rfl rfl rfl rfl rfl rfl rfl ⟨rfl, rfl, rfl, rfl, rfl⟩ rfl rfl rfl rfl rfl (by kernel_rfl) Tryz.func3 (by kernel_rfl)
    (of_decide_eq_true (by kernel_rfl)) (by unfold Func.isWrapper; first | (rw [if_pos (by decide +kernel)]; kernel_rfl) | (rw [if_neg (by decide +kernel)]; exact ⟨rfl, rfl⟩))
    (fun os started H enc _ F => by rw [OpenClaim.pre_eq_preRow]; exact lifted_fidEncodes os started H enc F)
theorem plain_fidEncodes (f : FuncId) (fn : Func) (hf : Tryz.pinned.checked.prog.funcNamed "masterdisc/masterdisclaw35.FidEncodes" = some f) (hfn : Tryz.pinned.checked.prog.funcs[f]? = some fn) :
    false = Tryz.pinned.checked.prog.looks [] ∧ ∀ (j : Nat) t, fn.params[j]? = some t → Tryz.pinned.checked.prog.wantsStandIn t = false := by
  obtain rfl : f = 3 := Option.some.inj ((show Tryz.prog.funcNamed "masterdisc/masterdisclaw35.FidEncodes" = some 3 by kernel_rfl).symm.trans hf) |>.symm
  obtain rfl : fn = Tryz.f3 := (Option.some.inj (Tryz.func3.symm.trans hfn)).symm
  refine ⟨no_looks, fun j t ht => no_standIn t ?_⟩
  have hm := Array.mem_of_getElem? ht
  rw [Tryz.params3] at hm
  exact (by decide : ∀ t ∈ [25, 3], t ∈ rowTypes) t (by simpa using hm)
end Go.Proofs.YtjmldlknegbimaaGreatDoor.Sx
namespace Go.Proofs.YtjmldlknegbimaaGreatDoor
open Go Sx
/-- THE CARD. -/
theorem fidEncodes_card : Rows.FidEncodesCardSaid :=
  Claim7.holds_tied_plain_at .later [] _ _ _ _ said_fidEncodes (fun _ h => by cases h) (by kernel_rfl) (fun _ h => by cases h) fidEncodes_row_tie rfl ⟨rfl, rfl⟩ (by kernel_rfl) rfl plain_fidEncodes (by kernel_rfl)
end Go.Proofs.YtjmldlknegbimaaGreatDoor
