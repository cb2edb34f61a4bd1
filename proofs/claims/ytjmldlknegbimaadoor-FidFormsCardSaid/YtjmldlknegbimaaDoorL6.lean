/- THE LAW FidForms: for every list of entries and name the law answers true, and what came in reads as it did; the listed tables (of unicode/utf8) hold what their texts lay. -/
import Derived.Test.YtjmldlknegbimaaDoorW1
import Derived.Test.YtjmldlknegbimaaDoorW4
import Derived.Test.YtjmldlknegbimaaDoorC8
set_option linter.unusedVariables false
set_option linter.unusedSimpArgs false
namespace Go.Proofs.YtjmldlknegbimaaDoor.Sx
open Go Go.ChangeShapes Go.WideShapes Go.ChangeAt Go.RowKit

set_option maxRecDepth 100000 in
theorem contract_fidForms (H : Type) (enc : TypeId × Value → H) (W : World) (base : Nat) (args : Array Value) (ds gs : List (DataW H)) (before : List MemPlace)
    (hval : ∀ (j : Nat) t v, Tryd.f8.params[j]? = some t → args[j]? = some v → Value.okWide Tryd.prog W .any base t v)
    (hW : DataW.Whole enc Tryd.prog Tryd.f8.params.toList Rows.fidFormsSpec.vars false W args.toList ds gs before) (hL : laidMetH Tryd.prog Rows.fidFormsRow.laid W) :
    Calls Tryd.prog 8 args W fun e W' => ∃ v, e = .returned v ∧ Rows.fidFormsSpec.post enc Tryd.prog Tryd.f8 false true false false W args v W' := by
  have hW' := hW
  obtain ⟨p, q, hA0, hV, rfl, hfz, hnd⟩ := hW
  have hA : DataW.TrodAll enc Tryd.prog W 0 (fun _ => true) true Tryd.f8.params.toList args.toList ds p := hA0
  rw [Tryd.params8] at hA hval
  obtain ⟨v0, vs0, d0, ds0, p0, q0, hargs, rfl, rfl, h0, r0⟩ := trodAll_cons hA
  obtain ⟨v1, vs1, d1, ds1, p1, q1, rfl, rfl, rfl, h1, r1⟩ := trodAll_cons r0
  obtain ⟨rfl, rfl, rfl⟩ := trodAll_nil r1
  obtain rfl : args = #[v0, v1] := by cases args; simp_all
  obtain ⟨rfl, rfl⟩ := trodVars_none hV
  obtain ⟨x0, y0, z0⟩ := arg_read bears44 h0 (hval 0 44 v0 rfl rfl)
  obtain ⟨x1, y1, z1⟩ := arg_read bears9 h1 (hval 1 9 v1 rfl rfl)
  obtain ⟨n0, rfl, w0⟩ := has_fids y0
  obtain ⟨n1, rfl, w1⟩ := y1
  refine (law_calls (G := GT) (l_forms n0 n1 (fids_lt w0)) (gt_ok hL) rfl ?_).mono fun e W' ⟨he, hg⟩ => ?_
  · intro i hi
    match i, hi with
    | 0, _ => exact z0
    | 1, _ => exact z1
  · subst he
    exact ⟨_, rfl, law_post (tb := 4) rfl laidOut (by rw [Tryd.params8]; exact fun t ht => int_params t ((by decide : ∀ t ∈ [44, 9], t ∈ rowTypes) t ht)) rfl Tryd.underlying4 rfl rfl rfl hW' hg⟩

def args_fidForms : Array Value := #[.slice none 0 0, .string ⟨#[]⟩]
theorem laid_met_fidForms (os : Os) : laidMet Tryd.prog Rows.fidFormsRow.laid ((laidWorld os).forCall (fun _ _ => 0) ⟨#[], args_fidForms, []⟩).memory := laid_met os _
theorem reads_fidForms (os : Os) {H : Type} (enc : TypeId × Value → H) : ∃ places, DataW.whole enc Tryd.prog ((laidWorld os).forCall (fun _ _ => 0) ⟨#[], args_fidForms, []⟩).memory Tryd.f8.params.toList Rows.fidFormsSpec.vars false args_fidForms.toList 8 = some ([.nil, .lit (.string [])], [], places) :=
  ⟨[], by kernel_rfl⟩
set_option maxRecDepth 100000 in
theorem lifted_fidForms (os : Os) (started : os.Started) (H : Type) (enc : TypeId × Value → H) (F : Stop.Interp) :
    ReturnsInHanded {} Tryd.checked os 8 .any ((OpenSpec.ofChange Rows.fidFormsSpec).preRow enc Tryd.prog Tryd.f8 Rows.fidFormsRow.domain false Rows.fidFormsRow.laid) (((OpenSpec.ofChange Rows.fidFormsSpec).at F).post enc Tryd.prog Tryd.f8 false true false false) := by
  obtain ⟨places, hx⟩ := reads_fidForms os enc
  refine returnsInHanded_of_row (C := Tryd.checked) (s := OpenSpec.ofChange Rows.fidFormsSpec) own started (by kernel_rfl) Tryd.func8
    (witness_row_at (enc := enc) (C := Tryd.checked) false (laidWorld os) args_fidForms rfl (world_vars os _) (world_rest os _) (by as_aux_lemma => kernel_rfl)
      (OpenSpec.preRow_of_cond 8 hx (by kernel_rfl) (fun k hk => by cases hk) (by kernel_rfl) (laid_met_fidForms os))) ?_
  intro W base args ds gs before hval hW _ _ _ hL _ _
  exact contract_fidForms H enc W base args ds gs before hval hW hL
theorem said_fidForms : Rows.FidFormsSaid :=
  OpenClaim.holds_of_cond 8 Tryd.f8 rfl rfl rfl rfl rfl rfl rfl ⟨rfl, rfl, rfl, rfl, rfl⟩ rfl rfl rfl rfl rfl (by kernel_rfl) Tryd.func8 (by kernel_rfl)
    (of_decide_eq_true (by kernel_rfl)) (by unfold Func.isWrapper; first | (rw [if_pos (by decide +kernel)]; kernel_rfl) | (rw [if_neg (by decide +kernel)]; exact ⟨rfl, rfl⟩))
    (fun os started H enc _ F => by rw [OpenClaim.pre_eq_preRow]; exact lifted_fidForms os started H enc F)
theorem plain_fidForms (f : FuncId) (fn : Func) (hf : Tryd.pinned.checked.prog.funcNamed "masterdisc/masterdisclaw35.FidForms" = some f) (hfn : Tryd.pinned.checked.prog.funcs[f]? = some fn) :
    false = Tryd.pinned.checked.prog.looks [] ∧ ∀ (j : Nat) t, fn.params[j]? = some t → Tryd.pinned.checked.prog.wantsStandIn t = false := by
  obtain rfl : f = 8 := Option.some.inj ((show Tryd.prog.funcNamed "masterdisc/masterdisclaw35.FidForms" = some 8 by kernel_rfl).symm.trans hf) |>.symm
  obtain rfl : fn = Tryd.f8 := (Option.some.inj (Tryd.func8.symm.trans hfn)).symm
  refine ⟨no_looks, fun j t ht => no_standIn t ?_⟩
  have hm := Array.mem_of_getElem? ht
  rw [Tryd.params8] at hm
  exact (by decide : ∀ t ∈ [44, 9], t ∈ rowTypes) t (by simpa using hm)
end Go.Proofs.YtjmldlknegbimaaDoor.Sx
namespace Go.Proofs.YtjmldlknegbimaaDoor
open Go Sx
/-- THE CARD. -/
theorem fidForms_card : Rows.FidFormsCardSaid :=
  Claim7.holds_tied_plain_at .later [] _ _ _ _ said_fidForms (fun _ h => by cases h) (by kernel_rfl) (fun _ h => by cases h) fidForms_row_tie rfl ⟨rfl, rfl⟩ (by kernel_rfl) rfl plain_fidForms (by kernel_rfl)
end Go.Proofs.YtjmldlknegbimaaDoor
