/- THE LAW FidReturns: for every entry, number and text the law answers true, and what came in reads as it did; the listed tables (of unicode/utf8) hold what their texts lay. -/
import Derived.Test.YtjmldlknegbimaaDoorW1
import Derived.Test.YtjmldlknegbimaaDoorW5
import Derived.Test.YtjmldlknegbimaaDoorC9
set_option linter.unusedVariables false
set_option linter.unusedSimpArgs false
namespace Go.Proofs.YtjmldlknegbimaaDoor.Sx
open Go Go.ChangeShapes Go.WideShapes Go.ChangeAt Go.RowKit

set_option maxRecDepth 100000 in
theorem contract_fidReturns (H : Type) (enc : TypeId × Value → H) (W : World) (base : Nat) (args : Array Value) (ds gs : List (DataW H)) (before : List MemPlace)
    (hval : ∀ (j : Nat) t v, Tryd.f9.params[j]? = some t → args[j]? = some v → Value.okWide Tryd.prog W .any base t v)
    (hW : DataW.Whole enc Tryd.prog Tryd.f9.params.toList Rows.fidReturnsSpec.vars false W args.toList ds gs before) (hL : laidMetH Tryd.prog Rows.fidReturnsRow.laid W) :
    Calls Tryd.prog 9 args W fun e W' => ∃ v, e = .returned v ∧ Rows.fidReturnsSpec.post enc Tryd.prog Tryd.f9 false true false false W args v W' := by
  have hW' := hW
  obtain ⟨p, q, hA0, hV, rfl, hfz, hnd⟩ := hW
  have hA : DataW.TrodAll enc Tryd.prog W 0 (fun _ => true) true Tryd.f9.params.toList args.toList ds p := hA0
  rw [Tryd.params9] at hA hval
  obtain ⟨v0, vs0, d0, ds0, p0, q0, hargs, rfl, rfl, h0, r0⟩ := trodAll_cons hA
  obtain ⟨v1, vs1, d1, ds1, p1, q1, rfl, rfl, rfl, h1, r1⟩ := trodAll_cons r0
  obtain ⟨v2, vs2, d2, ds2, p2, q2, rfl, rfl, rfl, h2, r2⟩ := trodAll_cons r1
  obtain ⟨rfl, rfl, rfl⟩ := trodAll_nil r2
  obtain rfl : args = #[v0, v1, v2] := by cases args; simp_all
  obtain ⟨rfl, rfl⟩ := trodVars_none hV
  obtain ⟨x0, y0, z0⟩ := arg_read bears57 h0 (hval 0 57 v0 rfl rfl)
  obtain ⟨x1, y1, z1⟩ := arg_read bears3 h1 (hval 1 3 v1 rfl rfl)
  obtain ⟨x2, y2, z2⟩ := arg_read bears9 h2 (hval 2 9 v2 rfl rfl)
  obtain ⟨n0, rfl, w0⟩ := has_fid y0
  obtain ⟨n1, rfl, w1⟩ := y1
  obtain ⟨n2, rfl, w2⟩ := y2
  refine (law_calls (G := GT) (l_returns n0 n1 n2 w0 w2) (gt_ok hL) rfl ?_).mono fun e W' ⟨he, hg⟩ => ?_
  · intro i hi
    match i, hi with
    | 0, _ => exact z0
    | 1, _ => exact z1
    | 2, _ => exact z2
  · subst he
    exact ⟨_, rfl, law_post (tb := 4) rfl laidOut (by rw [Tryd.params9]; exact fun t ht => int_params2 t ((by decide : ∀ t ∈ [57, 3, 9], t ∈ rowTypes2) t ht)) rfl Tryd.underlying4 rfl rfl rfl hW' hg⟩

def args_fidReturns : Array Value := #[.agg #[.string ⟨#[]⟩, .bool false, .bool false, .bool false, .bool false, .bool false, .int .i64 0, .int .i64 0, .int .i64 0], .int .i64 0, .string ⟨#[]⟩]
theorem laid_met_fidReturns (os : Os) : laidMet Tryd.prog Rows.fidReturnsRow.laid ((laidWorld os).forCall (fun _ _ => 0) ⟨#[], args_fidReturns, []⟩).memory := laid_met os _
theorem reads_fidReturns (os : Os) {H : Type} (enc : TypeId × Value → H) : ∃ places, DataW.whole enc Tryd.prog ((laidWorld os).forCall (fun _ _ => 0) ⟨#[], args_fidReturns, []⟩).memory Tryd.f9.params.toList Rows.fidReturnsSpec.vars false args_fidReturns.toList 8 = some ([.agg [.lit (.string []), .lit (.bool false), .lit (.bool false), .lit (.bool false), .lit (.bool false), .lit (.bool false), .agg [.lit (.int .i64 0), .lit (.int .i64 0)], .lit (.int .i64 0)], .lit (.int .i64 0), .lit (.string [])], [], places) :=
  ⟨[], by kernel_rfl⟩
set_option maxRecDepth 100000 in
theorem lifted_fidReturns (os : Os) (started : os.Started) (H : Type) (enc : TypeId × Value → H) (F : Stop.Interp) :
    ReturnsInHanded {} Tryd.checked os 9 .any ((OpenSpec.ofChange Rows.fidReturnsSpec).preRow enc Tryd.prog Tryd.f9 Rows.fidReturnsRow.domain false Rows.fidReturnsRow.laid) (((OpenSpec.ofChange Rows.fidReturnsSpec).at F).post enc Tryd.prog Tryd.f9 false true false false) := by
  obtain ⟨places, hx⟩ := reads_fidReturns os enc
  refine returnsInHanded_of_row (C := Tryd.checked) (s := OpenSpec.ofChange Rows.fidReturnsSpec) own started (by kernel_rfl) Tryd.func9
    (witness_row_at (enc := enc) (C := Tryd.checked) false (laidWorld os) args_fidReturns rfl (world_vars os _) (world_rest os _) (by as_aux_lemma => kernel_rfl)
      (OpenSpec.preRow_of_cond 8 hx (by kernel_rfl) (fun k hk => by cases hk) (by kernel_rfl) (laid_met_fidReturns os))) ?_
  intro W base args ds gs before hval hW _ _ _ hL _ _
  exact contract_fidReturns H enc W base args ds gs before hval hW hL
theorem said_fidReturns : Rows.FidReturnsSaid :=
  OpenClaim.holds_of_cond 9 Tryd.f9 rfl rfl rfl rfl rfl rfl rfl ⟨rfl, rfl, rfl, rfl, rfl⟩ rfl rfl rfl rfl rfl (by kernel_rfl) Tryd.func9 (by kernel_rfl)
    (of_decide_eq_true (by kernel_rfl)) (by unfold Func.isWrapper; first | (rw [if_pos (by decide +kernel)]; kernel_rfl) | (rw [if_neg (by decide +kernel)]; exact ⟨rfl, rfl⟩))
    (fun os started H enc _ F => by rw [OpenClaim.pre_eq_preRow]; exact lifted_fidReturns os started H enc F)
theorem plain_fidReturns (f : FuncId) (fn : Func) (hf : Tryd.pinned.checked.prog.funcNamed "masterdisc/masterdisclaw35.FidReturns" = some f) (hfn : Tryd.pinned.checked.prog.funcs[f]? = some fn) :
    false = Tryd.pinned.checked.prog.looks [] ∧ ∀ (j : Nat) t, fn.params[j]? = some t → Tryd.pinned.checked.prog.wantsStandIn t = false := by
  obtain rfl : f = 9 := Option.some.inj ((show Tryd.prog.funcNamed "masterdisc/masterdisclaw35.FidReturns" = some 9 by kernel_rfl).symm.trans hf) |>.symm
  obtain rfl : fn = Tryd.f9 := (Option.some.inj (Tryd.func9.symm.trans hfn)).symm
  refine ⟨no_looks, fun j t ht => no_standIn2 t ?_⟩
  have hm := Array.mem_of_getElem? ht
  rw [Tryd.params9] at hm
  exact (by decide : ∀ t ∈ [57, 3, 9], t ∈ rowTypes2) t (by simpa using hm)
end Go.Proofs.YtjmldlknegbimaaDoor.Sx
namespace Go.Proofs.YtjmldlknegbimaaDoor
open Go Sx
/-- THE CARD. -/
theorem fidReturns_card : Rows.FidReturnsCardSaid :=
  Claim7.holds_tied_plain_at .later [] _ _ _ _ said_fidReturns (fun _ h => by cases h) (by kernel_rfl) (fun _ h => by cases h) fidReturns_row_tie rfl ⟨rfl, rfl⟩ (by kernel_rfl) rfl plain_fidReturns (by kernel_rfl)
end Go.Proofs.YtjmldlknegbimaaDoor
