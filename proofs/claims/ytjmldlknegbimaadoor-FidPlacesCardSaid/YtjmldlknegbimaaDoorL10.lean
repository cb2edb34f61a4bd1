/- THE LAW FidPlaces: for every list of entries and list of blocks the law answers true, and what came in reads as it did; the listed tables (of unicode/utf8) hold what their texts lay. -/
import Derived.Test.YtjmldlknegbimaaDoorW1
import Derived.Test.YtjmldlknegbimaaDoorW5
import Derived.Test.YtjmldlknegbimaaDoorC10
set_option linter.unusedVariables false
set_option linter.unusedSimpArgs false
namespace Go.Proofs.YtjmldlknegbimaaDoor.Sx
open Go Go.ChangeShapes Go.WideShapes Go.ChangeAt Go.RowKit

set_option maxRecDepth 100000 in
theorem contract_fidPlaces (H : Type) (enc : TypeId × Value → H) (W : World) (base : Nat) (args : Array Value) (ds gs : List (DataW H)) (before : List MemPlace)
    (hval : ∀ (j : Nat) t v, Tryd.f11.params[j]? = some t → args[j]? = some v → Value.okWide Tryd.prog W .any base t v)
    (hW : DataW.Whole enc Tryd.prog Tryd.f11.params.toList Rows.fidPlacesSpec.vars false W args.toList ds gs before) (hL : laidMetH Tryd.prog Rows.fidPlacesRow.laid W) :
    Calls Tryd.prog 11 args W fun e W' => ∃ v, e = .returned v ∧ Rows.fidPlacesSpec.post enc Tryd.prog Tryd.f11 false true false false W args v W' := by
  have hW' := hW
  obtain ⟨p, q, hA0, hV, rfl, hfz, hnd⟩ := hW
  have hA : DataW.TrodAll enc Tryd.prog W 0 (fun _ => true) true Tryd.f11.params.toList args.toList ds p := hA0
  rw [Tryd.params11] at hA hval
  obtain ⟨v0, vs0, d0, ds0, p0, q0, hargs, rfl, rfl, h0, r0⟩ := trodAll_cons hA
  obtain ⟨v1, vs1, d1, ds1, p1, q1, rfl, rfl, rfl, h1, r1⟩ := trodAll_cons r0
  obtain ⟨rfl, rfl, rfl⟩ := trodAll_nil r1
  obtain rfl : args = #[v0, v1] := by cases args; simp_all
  obtain ⟨rfl, rfl⟩ := trodVars_none hV
  obtain ⟨x0, y0, z0⟩ := arg_read bears44 h0 (hval 0 44 v0 rfl rfl)
  obtain ⟨x1, y1, z1⟩ := arg_read bears36 h1 (hval 1 36 v1 rfl rfl)
  obtain ⟨n0, rfl, w0⟩ := has_fids y0
  obtain ⟨n1, rfl, w1⟩ := has_ints y1
  refine (law_calls (G := GT) (l_places n0 n1 (fids_lt w0) (ints_lt w1)) (gt_ok hL) rfl ?_).mono fun e W' ⟨he, hg⟩ => ?_
  · intro i hi
    match i, hi with
    | 0, _ => exact z0
    | 1, _ => exact z1
  · subst he
    exact ⟨_, rfl, law_post (tb := 4) rfl laidOut (by rw [Tryd.params11]; exact fun t ht => int_params2 t ((by decide : ∀ t ∈ [44, 36], t ∈ rowTypes2) t ht)) rfl Tryd.underlying4 rfl rfl rfl hW' hg⟩

def args_fidPlaces : Array Value := #[.slice none 0 0, .slice none 0 0]
theorem laid_met_fidPlaces (os : Os) : laidMet Tryd.prog Rows.fidPlacesRow.laid ((laidWorld os).forCall (fun _ _ => 0) ⟨#[], args_fidPlaces, []⟩).memory := laid_met os _
theorem reads_fidPlaces (os : Os) {H : Type} (enc : TypeId × Value → H) : ∃ places, DataW.whole enc Tryd.prog ((laidWorld os).forCall (fun _ _ => 0) ⟨#[], args_fidPlaces, []⟩).memory Tryd.f11.params.toList Rows.fidPlacesSpec.vars false args_fidPlaces.toList 8 = some ([.nil, .nil], [], places) :=
  ⟨[], by kernel_rfl⟩
set_option maxRecDepth 100000 in
theorem lifted_fidPlaces (os : Os) (started : os.Started) (H : Type) (enc : TypeId × Value → H) (F : Stop.Interp) :
    ReturnsInHanded {} Tryd.checked os 11 .any ((OpenSpec.ofChange Rows.fidPlacesSpec).preRow enc Tryd.prog Tryd.f11 Rows.fidPlacesRow.domain false Rows.fidPlacesRow.laid) (((OpenSpec.ofChange Rows.fidPlacesSpec).at F).post enc Tryd.prog Tryd.f11 false true false false) := by
  obtain ⟨places, hx⟩ := reads_fidPlaces os enc
  refine returnsInHanded_of_row (C := Tryd.checked) (s := OpenSpec.ofChange Rows.fidPlacesSpec) own started (by kernel_rfl) Tryd.func11
    (witness_row_at (enc := enc) (C := Tryd.checked) false (laidWorld os) args_fidPlaces rfl (world_vars os _) (world_rest os _) (by as_aux_lemma => kernel_rfl)
      (OpenSpec.preRow_of_cond 8 hx (by kernel_rfl) (fun k hk => by cases hk) (by kernel_rfl) (laid_met_fidPlaces os))) ?_
  intro W base args ds gs before hval hW _ _ _ hL _ _
  exact contract_fidPlaces H enc W base args ds gs before hval hW hL
theorem said_fidPlaces : Rows.FidPlacesSaid :=
  OpenClaim.holds_of_cond 11 Tryd.f11 rfl rfl rfl rfl rfl rfl rfl ⟨rfl, rfl, rfl, rfl, rfl⟩ rfl rfl rfl rfl rfl (by kernel_rfl) Tryd.func11 (by kernel_rfl)
    (of_decide_eq_true (by kernel_rfl)) (by unfold Func.isWrapper; first | (rw [if_pos (by decide +kernel)]; kernel_rfl) | (rw [if_neg (by decide +kernel)]; exact ⟨rfl, rfl⟩))
    (fun os started H enc _ F => by rw [OpenClaim.pre_eq_preRow]; exact lifted_fidPlaces os started H enc F)
theorem plain_fidPlaces (f : FuncId) (fn : Func) (hf : Tryd.pinned.checked.prog.funcNamed "masterdisc/masterdisclaw35.FidPlaces" = some f) (hfn : Tryd.pinned.checked.prog.funcs[f]? = some fn) :
    false = Tryd.pinned.checked.prog.looks [] ∧ ∀ (j : Nat) t, fn.params[j]? = some t → Tryd.pinned.checked.prog.wantsStandIn t = false := by
  obtain rfl : f = 11 := Option.some.inj ((show Tryd.prog.funcNamed "masterdisc/masterdisclaw35.FidPlaces" = some 11 by kernel_rfl).symm.trans hf) |>.symm
  obtain rfl : fn = Tryd.f11 := (Option.some.inj (Tryd.func11.symm.trans hfn)).symm
  refine ⟨no_looks, fun j t ht => no_standIn2 t ?_⟩
  have hm := Array.mem_of_getElem? ht
  rw [Tryd.params11] at hm
  exact (by decide : ∀ t ∈ [44, 36], t ∈ rowTypes2) t (by simpa using hm)
end Go.Proofs.YtjmldlknegbimaaDoor.Sx
namespace Go.Proofs.YtjmldlknegbimaaDoor
open Go Sx
/-- THE CARD. -/
theorem fidPlaces_card : Rows.FidPlacesCardSaid :=
  Claim7.holds_tied_plain_at .later [] _ _ _ _ said_fidPlaces (fun _ h => by cases h) (by kernel_rfl) (fun _ h => by cases h) fidPlaces_row_tie rfl ⟨rfl, rfl⟩ (by kernel_rfl) rfl plain_fidPlaces (by kernel_rfl)
end Go.Proofs.YtjmldlknegbimaaDoor
