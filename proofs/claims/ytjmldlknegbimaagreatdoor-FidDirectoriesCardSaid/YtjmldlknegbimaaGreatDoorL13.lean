/- THE LAW FidDirectories: for every list of entries, text and list of blocks the law answers true, and what came in reads as it did; the listed tables (of unicode/utf8) hold what their texts lay. -/
import Derived.Test.YtjmldlknegbimaaGreatDoorW1
import Derived.Test.YtjmldlknegbimaaGreatDoorW3
import Derived.Test.YtjmldlknegbimaaGreatDoorC11
set_option linter.unusedVariables false
set_option linter.unusedSimpArgs false
namespace Go.Proofs.YtjmldlknegbimaaGreatDoor.Sx
open Go Go.ChangeShapes Go.WideShapes Go.ChangeAt Go.RowKit

set_option maxRecDepth 100000 in
theorem contract_fidDirectories (H : Type) (enc : TypeId × Value → H) (W : World) (base : Nat) (args : Array Value) (ds gs : List (DataW H)) (before : List MemPlace)
    (hval : ∀ (j : Nat) t v, Tryz.f5.params[j]? = some t → args[j]? = some v → Value.okWide Tryz.prog W .any base t v)
    (hW : DataW.Whole enc Tryz.prog Tryz.f5.params.toList Rows.fidDirectoriesSpec.vars false W args.toList ds gs before) (hL : laidMetH Tryz.prog Rows.fidDirectoriesRow.laid W) :
    Calls Tryz.prog 5 args W fun e W' => ∃ v, e = .returned v ∧ Rows.fidDirectoriesSpec.post enc Tryz.prog Tryz.f5 false true false false W args v W' := by
  have hW' := hW
  obtain ⟨p, q, hA0, hV, rfl, hfz, hnd⟩ := hW
  have hA : DataW.TrodAll enc Tryz.prog W 0 (fun _ => true) true Tryz.f5.params.toList args.toList ds p := hA0
  rw [Tryz.params5] at hA hval
  obtain ⟨v0, vs0, d0, ds0, p0, q0, hargs, rfl, rfl, h0, r0⟩ := trodAll_cons hA
  obtain ⟨v1, vs1, d1, ds1, p1, q1, rfl, rfl, rfl, h1, r1⟩ := trodAll_cons r0
  obtain ⟨v2, vs2, d2, ds2, p2, q2, rfl, rfl, rfl, h2, r2⟩ := trodAll_cons r1
  obtain ⟨rfl, rfl, rfl⟩ := trodAll_nil r2
  obtain rfl : args = #[v0, v1, v2] := by cases args; simp_all
  obtain ⟨rfl, rfl⟩ := trodVars_none hV
  obtain ⟨x0, y0, z0⟩ := arg_read bears44 h0 (hval 0 36 v0 rfl rfl)
  obtain ⟨x1, y1, z1⟩ := arg_read bears9 h1 (hval 1 9 v1 rfl rfl)
  obtain ⟨x2, y2, z2⟩ := arg_read bears36 h2 (hval 2 37 v2 rfl rfl)
  obtain ⟨n0, rfl, w0⟩ := has_fids y0
  obtain ⟨n1, rfl, w1⟩ := y1
  obtain ⟨n2, rfl, w2⟩ := has_ints y2
  refine (law_calls (G := GT) (l_directories n0 n1 n2 (fids_lt w0) (ints_lt w2)) (gt_ok hL) rfl ?_).mono fun e W' ⟨he, hg⟩ => ?_
  · intro i hi
    match i, hi with
    | 0, _ => exact z0
    | 1, _ => exact z1
    | 2, _ => exact z2
  · subst he
    exact ⟨_, rfl, law_post (tb := 4) rfl laidOut (by rw [Tryz.params5]; exact fun t ht => int_params t ((by decide : ∀ t ∈ [36, 9, 37], t ∈ rowTypes) t ht)) rfl Tryz.underlying4 rfl rfl rfl hW' hg⟩

def args_fidDirectories : Array Value := #[.slice none 0 0, .string ⟨#[]⟩, .slice none 0 0]
theorem laid_met_fidDirectories (os : Os) : laidMet Tryz.prog Rows.fidDirectoriesRow.laid ((laidWorld os).forCall (fun _ _ => 0) ⟨#[], args_fidDirectories, []⟩).memory := laid_met os _
theorem reads_fidDirectories (os : Os) {H : Type} (enc : TypeId × Value → H) : ∃ places, DataW.whole enc Tryz.prog ((laidWorld os).forCall (fun _ _ => 0) ⟨#[], args_fidDirectories, []⟩).memory Tryz.f5.params.toList Rows.fidDirectoriesSpec.vars false args_fidDirectories.toList 8 = some ([.nil, .lit (.string []), .nil], [], places) :=
  ⟨[], by kernel_rfl⟩
set_option maxRecDepth 100000 in
theorem lifted_fidDirectories (os : Os) (started : os.Started) (H : Type) (enc : TypeId × Value → H) (F : Stop.Interp) :
    ReturnsInHanded {} Tryz.checked os 5 .any ((OpenSpec.ofChange Rows.fidDirectoriesSpec).preRow enc Tryz.prog Tryz.f5 Rows.fidDirectoriesRow.domain false Rows.fidDirectoriesRow.laid) (((OpenSpec.ofChange Rows.fidDirectoriesSpec).at F).post enc Tryz.prog Tryz.f5 false true false false) := by
  obtain ⟨places, hx⟩ := reads_fidDirectories os enc
  refine returnsInHanded_of_row (C := Tryz.checked) (s := OpenSpec.ofChange Rows.fidDirectoriesSpec) own started (by kernel_rfl) Tryz.func5
    (witness_row_at (enc := enc) (C := Tryz.checked) false (laidWorld os) args_fidDirectories rfl (world_vars os _) (world_rest os _) (by as_aux_lemma => kernel_rfl)
      (OpenSpec.preRow_of_cond 8 hx (by kernel_rfl) (fun k hk => by cases hk) (by kernel_rfl) (laid_met_fidDirectories os))) ?_
  intro W base args ds gs before hval hW _ _ _ hL _ _
  exact contract_fidDirectories H enc W base args ds gs before hval hW hL
theorem said_fidDirectories : Rows.FidDirectoriesSaid :=
  OpenClaim.holds_of_cond 5 Tryz.f5 rfl rfl rfl rfl rfl rfl rfl ⟨rfl, rfl, rfl, rfl, rfl⟩ rfl rfl rfl rfl rfl (by kernel_rfl) Tryz.func5 (by kernel_rfl)
    (of_decide_eq_true (by kernel_rfl)) (by unfold Func.isWrapper; first | (rw [if_pos (by decide +kernel)]; kernel_rfl) | (rw [if_neg (by decide +kernel)]; exact ⟨rfl, rfl⟩))
    (fun os started H enc _ F => by rw [OpenClaim.pre_eq_preRow]; exact lifted_fidDirectories os started H enc F)
theorem plain_fidDirectories (f : FuncId) (fn : Func) (hf : Tryz.pinned.checked.prog.funcNamed "masterdisc/masterdisclaw35.FidDirectories" = some f) (hfn : Tryz.pinned.checked.prog.funcs[f]? = some fn) :
    false = Tryz.pinned.checked.prog.looks [] ∧ ∀ (j : Nat) t, fn.params[j]? = some t → Tryz.pinned.checked.prog.wantsStandIn t = false := by
  obtain rfl : f = 5 := Option.some.inj ((show Tryz.prog.funcNamed "masterdisc/masterdisclaw35.FidDirectories" = some 5 by kernel_rfl).symm.trans hf) |>.symm
  obtain rfl : fn = Tryz.f5 := (Option.some.inj (Tryz.func5.symm.trans hfn)).symm
  refine ⟨no_looks, fun j t ht => no_standIn t ?_⟩
  have hm := Array.mem_of_getElem? ht
  rw [Tryz.params5] at hm
  exact (by decide : ∀ t ∈ [36, 9, 37], t ∈ rowTypes) t (by simpa using hm)
end Go.Proofs.YtjmldlknegbimaaGreatDoor.Sx
namespace Go.Proofs.YtjmldlknegbimaaGreatDoor
open Go Sx
/-- THE CARD. -/
theorem fidDirectories_card : Rows.FidDirectoriesCardSaid :=
  Claim7.holds_tied_plain_at .later [] _ _ _ _ said_fidDirectories (fun _ h => by cases h) (by kernel_rfl) (fun _ h => by cases h) fidDirectories_row_tie rfl ⟨rfl, rfl⟩ (by kernel_rfl) rfl plain_fidDirectories (by kernel_rfl)
end Go.Proofs.YtjmldlknegbimaaGreatDoor
