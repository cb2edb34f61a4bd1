/- THE LAW FidLists: for every two lists of entries and list of blocks the law answers true, and what came in reads as it did; the listed tables (of unicode/utf8) hold what their texts lay. -/
import Derived.Test.YtjmldlknegbimaaDoorW1
import Derived.Test.YtjmldlknegbimaaDoorW5
import Derived.Test.YtjmldlknegbimaaDoorC9
set_option linter.unusedVariables false
set_option linter.unusedSimpArgs false
namespace Go.Proofs.YtjmldlknegbimaaDoor.Sx
open Go Go.ChangeShapes Go.WideShapes Go.ChangeAt Go.RowKit

set_option maxRecDepth 100000 in
theorem contract_fidLists (H : Type) (enc : TypeId × Value → H) (W : World) (base : Nat) (args : Array Value) (ds gs : List (DataW H)) (before : List MemPlace)
    (hval : ∀ (j : Nat) t v, Tryd.f10.params[j]? = some t → args[j]? = some v → Value.okWide Tryd.prog W .any base t v)
    (hW : DataW.Whole enc Tryd.prog Tryd.f10.params.toList Rows.fidListsSpec.vars false W args.toList ds gs before) (hL : laidMetH Tryd.prog Rows.fidListsRow.laid W) :
    Calls Tryd.prog 10 args W fun e W' => ∃ v, e = .returned v ∧ Rows.fidListsSpec.post enc Tryd.prog Tryd.f10 false true false false W args v W' := by
  have hW' := hW
  obtain ⟨p, q, hA0, hV, rfl, hfz, hnd⟩ := hW
  have hA : DataW.TrodAll enc Tryd.prog W 0 (fun _ => true) true Tryd.f10.params.toList args.toList ds p := hA0
  rw [Tryd.params10] at hA hval
  obtain ⟨v0, vs0, d0, ds0, p0, q0, hargs, rfl, rfl, h0, r0⟩ := trodAll_cons hA
  obtain ⟨v1, vs1, d1, ds1, p1, q1, rfl, rfl, rfl, h1, r1⟩ := trodAll_cons r0
  obtain ⟨v2, vs2, d2, ds2, p2, q2, rfl, rfl, rfl, h2, r2⟩ := trodAll_cons r1
  obtain ⟨rfl, rfl, rfl⟩ := trodAll_nil r2
  obtain rfl : args = #[v0, v1, v2] := by cases args; simp_all
  obtain ⟨rfl, rfl⟩ := trodVars_none hV
  obtain ⟨x0, y0, z0⟩ := arg_read bears44 h0 (hval 0 44 v0 rfl rfl)
  obtain ⟨x1, y1, z1⟩ := arg_read bears44 h1 (hval 1 44 v1 rfl rfl)
  obtain ⟨x2, y2, z2⟩ := arg_read bears36 h2 (hval 2 36 v2 rfl rfl)
  obtain ⟨n0, rfl, w0⟩ := has_fids y0
  obtain ⟨n1, rfl, w1⟩ := has_fids y1
  obtain ⟨n2, rfl, w2⟩ := has_ints y2
  refine (law_calls (G := GT) (l_lists n0 n1 n2 (fids_lt w0) (fids_lt w1) (ints_lt w2)) (gt_ok hL) rfl ?_).mono fun e W' ⟨he, hg⟩ => ?_
  · intro i hi
    match i, hi with
    | 0, _ => exact z0
    | 1, _ => exact z1
    | 2, _ => exact z2
  · subst he
    exact ⟨_, rfl, law_post (tb := 4) rfl laidOut (by rw [Tryd.params10]; exact fun t ht => int_params2 t ((by decide : ∀ t ∈ [44, 44, 36], t ∈ rowTypes2) t ht)) rfl Tryd.underlying4 rfl rfl rfl hW' hg⟩

def args_fidLists : Array Value := #[.slice none 0 0, .slice none 0 0, .slice none 0 0]
theorem laid_met_fidLists (os : Os) : laidMet Tryd.prog Rows.fidListsRow.laid ((laidWorld os).forCall (fun _ _ => 0) ⟨#[], args_fidLists, []⟩).memory := laid_met os _
theorem reads_fidLists (os : Os) {H : Type} (enc : TypeId × Value → H) : ∃ places, DataW.whole enc Tryd.prog ((laidWorld os).forCall (fun _ _ => 0) ⟨#[], args_fidLists, []⟩).memory Tryd.f10.params.toList Rows.fidListsSpec.vars false args_fidLists.toList 8 = some ([.nil, .nil, .nil], [], places) :=
  ⟨[], by kernel_rfl⟩
set_option maxRecDepth 100000 in
theorem lifted_fidLists (os : Os) (started : os.Started) (H : Type) (enc : TypeId × Value → H) (F : Stop.Interp) :
    ReturnsInHanded {} Tryd.checked os 10 .any ((OpenSpec.ofChange Rows.fidListsSpec).preRow enc Tryd.prog Tryd.f10 Rows.fidListsRow.domain false Rows.fidListsRow.laid) (((OpenSpec.ofChange Rows.fidListsSpec).at F).post enc Tryd.prog Tryd.f10 false true false false) := by
  obtain ⟨places, hx⟩ := reads_fidLists os enc
  refine returnsInHanded_of_row (C := Tryd.checked) (s := OpenSpec.ofChange Rows.fidListsSpec) own started (by kernel_rfl) Tryd.func10
    (witness_row_at (enc := enc) (C := Tryd.checked) false (laidWorld os) args_fidLists rfl (world_vars os _) (world_rest os _) (by as_aux_lemma => kernel_rfl)
      (OpenSpec.preRow_of_cond 8 hx (by kernel_rfl) (fun k hk => by cases hk) (by kernel_rfl) (laid_met_fidLists os))) ?_
  intro W base args ds gs before hval hW _ _ _ hL _ _
  exact contract_fidLists H enc W base args ds gs before hval hW hL
theorem said_fidLists : Rows.FidListsSaid :=
  OpenClaim.holds_of_cond 10 Tryd.f10 rfl rfl rfl rfl rfl rfl rfl ⟨rfl, rfl, rfl, rfl, rfl⟩ rfl rfl rfl rfl rfl (by kernel_rfl) Tryd.func10 (by kernel_rfl)
    (of_decide_eq_true (by kernel_rfl)) (by unfold Func.isWrapper; first | (rw [if_pos (by decide +kernel)]; kernel_rfl) | (rw [if_neg (by decide +kernel)]; exact ⟨rfl, rfl⟩))
    (fun os started H enc _ F => by rw [OpenClaim.pre_eq_preRow]; exact lifted_fidLists os started H enc F)
theorem plain_fidLists (f : FuncId) (fn : Func) (hf : Tryd.pinned.checked.prog.funcNamed "masterdisc/masterdisclaw35.FidLists" = some f) (hfn : Tryd.pinned.checked.prog.funcs[f]? = some fn) :
    false = Tryd.pinned.checked.prog.looks [] ∧ ∀ (j : Nat) t, fn.params[j]? = some t → Tryd.pinned.checked.prog.wantsStandIn t = false := by
  obtain rfl : f = 10 := Option.some.inj ((show Tryd.prog.funcNamed "masterdisc/masterdisclaw35.FidLists" = some 10 by kernel_rfl).symm.trans hf) |>.symm
  obtain rfl : fn = Tryd.f10 := (Option.some.inj (Tryd.func10.symm.trans hfn)).symm
  refine ⟨no_looks, fun j t ht => no_standIn2 t ?_⟩
  have hm := Array.mem_of_getElem? ht
  rw [Tryd.params10] at hm
  exact (by decide : ∀ t ∈ [44, 44, 36], t ∈ rowTypes2) t (by simpa using hm)
end Go.Proofs.YtjmldlknegbimaaDoor.Sx
namespace Go.Proofs.YtjmldlknegbimaaDoor
open Go Sx
/-- THE CARD. -/
theorem fidLists_card : Rows.FidListsCardSaid :=
  Claim7.holds_tied_plain_at .later [] _ _ _ _ said_fidLists (fun _ h => by cases h) (by kernel_rfl) (fun _ h => by cases h) fidLists_row_tie rfl ⟨rfl, rfl⟩ (by kernel_rfl) rfl plain_fidLists (by kernel_rfl)
end Go.Proofs.YtjmldlknegbimaaDoor
