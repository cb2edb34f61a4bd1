/- THE LAW FidLooks: for every list of entries and name the law answers true, and what came in reads as it did; the listed tables (of unicode/utf8) hold what their texts lay. -/
import Derived.Test.YtjmldlknegbimaaDoorW1
import Derived.Test.YtjmldlknegbimaaDoorW4
import Derived.Test.YtjmldlknegbimaaDoorC8
set_option linter.unusedVariables false
set_option linter.unusedSimpArgs false
namespace Go.Proofs.YtjmldlknegbimaaDoor.Sx
open Go Go.ChangeShapes Go.WideShapes Go.ChangeAt Go.RowKit

set_option maxRecDepth 100000 in
theorem contract_fidLooks (H : Type) (enc : TypeId × Value → H) (W : World) (base : Nat) (args : Array Value) (ds gs : List (DataW H)) (before : List MemPlace)
    (hval : ∀ (j : Nat) t v, Tryd.f12.params[j]? = some t → args[j]? = some v → Value.okWide Tryd.prog W .any base t v)
    (hW : DataW.Whole enc Tryd.prog Tryd.f12.params.toList Rows.fidLooksSpec.vars false W args.toList ds gs before) (hL : laidMetH Tryd.prog Rows.fidLooksRow.laid W) :
    Calls Tryd.prog 12 args W fun e W' => ∃ v, e = .returned v ∧ Rows.fidLooksSpec.post enc Tryd.prog Tryd.f12 false true false false W args v W' := by
  have hW' := hW
  obtain ⟨p, q, hA0, hV, rfl, hfz, hnd⟩ := hW
  have hA : DataW.TrodAll enc Tryd.prog W 0 (fun _ => true) true Tryd.f12.params.toList args.toList ds p := hA0
  rw [Tryd.params12] at hA hval
  obtain ⟨v0, vs0, d0, ds0, p0, q0, hargs, rfl, rfl, h0, r0⟩ := trodAll_cons hA
  obtain ⟨v1, vs1, d1, ds1, p1, q1, rfl, rfl, rfl, h1, r1⟩ := trodAll_cons r0
  obtain ⟨rfl, rfl, rfl⟩ := trodAll_nil r1
  obtain rfl : args = #[v0, v1] := by cases args; simp_all
  obtain ⟨rfl, rfl⟩ := trodVars_none hV
  obtain ⟨x0, y0, z0⟩ := arg_read bears44 h0 (hval 0 44 v0 rfl rfl)
  obtain ⟨x1, y1, z1⟩ := arg_read bears9 h1 (hval 1 9 v1 rfl rfl)
  obtain ⟨n0, rfl, w0⟩ := has_fids y0
  obtain ⟨n1, rfl, w1⟩ := y1
  refine (law_calls (G := GT) (l_looks n0 n1 (fids_lt w0)) (gt_ok hL) rfl ?_).mono fun e W' ⟨he, hg⟩ => ?_
  · intro i hi
    match i, hi with
    | 0, _ => exact z0
    | 1, _ => exact z1
  · subst he
    exact ⟨_, rfl, law_post (tb := 4) rfl laidOut (by rw [Tryd.params12]; exact fun t ht => int_params t ((by decide : ∀ t ∈ [44, 9], t ∈ rowTypes) t ht)) rfl Tryd.underlying4 rfl rfl rfl hW' hg⟩

def args_fidLooks : Array Value := #[.slice none 0 0, .string ⟨#[]⟩]
theorem laid_met_fidLooks (os : Os) : laidMet Tryd.prog Rows.fidLooksRow.laid ((laidWorld os).forCall (fun _ _ => 0) ⟨#[], args_fidLooks, []⟩).memory := laid_met os _
theorem reads_fidLooks (os : Os) {H : Type} (enc : TypeId × Value → H) : ∃ places, DataW.whole enc Tryd.prog ((laidWorld os).forCall (fun _ _ => 0) ⟨#[], args_fidLooks, []⟩).memory Tryd.f12.params.toList Rows.fidLooksSpec.vars false args_fidLooks.toList 8 = some ([.nil, .lit (.string [])], [], places) :=
  ⟨[], by kernel_rfl⟩
set_option maxRecDepth 100000 in
theorem lifted_fidLooks (os : Os) (started : os.Started) (H : Type) (enc : TypeId × Value → H) (F : Stop.Interp) :
    ReturnsInHanded {} Tryd.checked os 12 .any ((OpenSpec.ofChange Rows.fidLooksSpec).preRow enc Tryd.prog Tryd.f12 Rows.fidLooksRow.domain false Rows.fidLooksRow.laid) (((OpenSpec.ofChange Rows.fidLooksSpec).at F).post enc Tryd.prog Tryd.f12 false true false false) := by
  obtain ⟨places, hx⟩ := reads_fidLooks os enc
  refine returnsInHanded_of_row (C := Tryd.checked) (s := OpenSpec.ofChange Rows.fidLooksSpec) own started (by kernel_rfl) Tryd.func12
    (witness_row_at (enc := enc) (C := Tryd.checked) false (laidWorld os) args_fidLooks rfl (world_vars os _) (world_rest os _) (by as_aux_lemma => kernel_rfl)
      (OpenSpec.preRow_of_cond 8 hx (by kernel_rfl) (fun k hk => by cases hk) (by kernel_rfl) (laid_met_fidLooks os))) ?_
  intro W base args ds gs before hval hW _ _ _ hL _ _
  exact contract_fidLooks H enc W base args ds gs before hval hW hL
theorem said_fidLooks : Rows.FidLooksSaid :=
  OpenClaim.holds_of_cond 12 Tryd.f12 rfl rfl rfl rfl rfl rfl rfl ⟨rfl, rfl, rfl, rfl, rfl⟩ rfl rfl rfl rfl rfl (by kernel_rfl) Tryd.func12 (by kernel_rfl)
    (of_decide_eq_true (by kernel_rfl)) (by unfold Func.isWrapper; first | (rw [if_pos (by decide +kernel)]; kernel_rfl) | (rw [if_neg (by decide +kernel)]; exact ⟨rfl, rfl⟩))
    (fun os started H enc _ F => by rw [OpenClaim.pre_eq_preRow]; exact lifted_fidLooks os started H enc F)
theorem plain_fidLooks (f : FuncId) (fn : Func) (hf : Tryd.pinned.checked.prog.funcNamed "masterdisc/masterdisclaw35.FidLooks" = some f) (hfn : Tryd.pinned.checked.prog.funcs[f]? = some fn) :
    false = Tryd.pinned.checked.prog.looks [] ∧ ∀ (j : Nat) t, fn.params[j]? = some t → Tryd.pinned.checked.prog.wantsStandIn t = false := by
  obtain rfl : f = 12 := Option.some.inj ((show Tryd.prog.funcNamed "masterdisc/masterdisclaw35.FidLooks" = some 12 by kernel_rfl).symm.trans hf) |>.symm
  obtain rfl : fn = Tryd.f12 := (Option.some.inj (Tryd.func12.symm.trans hfn)).symm
  refine ⟨no_looks, fun j t ht => no_standIn t ?_⟩
  have hm := Array.mem_of_getElem? ht
  rw [Tryd.params12] at hm
  exact (by decide : ∀ t ∈ [44, 9], t ∈ rowTypes) t (by simpa using hm)
end Go.Proofs.YtjmldlknegbimaaDoor.Sx
namespace Go.Proofs.YtjmldlknegbimaaDoor
open Go Sx
/-- THE CARD. -/
theorem fidLooks_card : Rows.FidLooksCardSaid :=
  Claim7.holds_tied_plain_at .later [] _ _ _ _ said_fidLooks (fun _ h => by cases h) (by kernel_rfl) (fun _ h => by cases h) fidLooks_row_tie rfl ⟨rfl, rfl⟩ (by kernel_rfl) rfl plain_fidLooks (by kernel_rfl)
end Go.Proofs.YtjmldlknegbimaaDoor
