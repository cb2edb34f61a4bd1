/- THE LAW ExtattrOffsets: for every list of attributes and every location (of 32 bits) the law answers true, and what came in reads as it did; the listed tables (of unicode/utf8) hold what the program's text lays. -/
import Derived.Test.YtjmldlknegbimaaDoorW1
import Derived.Test.YtjmldlknegbimaaDoorH1
import Derived.Test.YtjmldlknegbimaaDoorC4
set_option linter.unusedVariables false
set_option linter.unusedSimpArgs false
namespace Go.Proofs.YtjmldlknegbimaaDoor.Sx
open Go Go.ChangeShapes Go.WideShapes Go.ChangeAt Go.RowKit

set_option maxRecDepth 100000 in
theorem contract_extattrOffsets (H : Type) (enc : TypeId × Value → H) (W : World) (base : Nat) (args : Array Value) (ds gs : List (DataW H)) (before : List MemPlace)
    (hval : ∀ (j : Nat) t v, Tryd.f5.params[j]? = some t → args[j]? = some v → Value.okWide Tryd.prog W .any base t v)
    (hW : DataW.Whole enc Tryd.prog Tryd.f5.params.toList Rows.extattrOffsetsSpec.vars false W args.toList ds gs before) :
    Calls Tryd.prog 5 args W fun e W' => ∃ v, e = .returned v ∧ Rows.extattrOffsetsSpec.post enc Tryd.prog Tryd.f5 false true false false W args v W' := by
  have hW' := hW
  obtain ⟨p, q, hA0, hV, rfl, hfz, hnd⟩ := hW
  have hA : DataW.TrodAll enc Tryd.prog W 0 (fun _ => true) true Tryd.f5.params.toList args.toList ds p := hA0
  rw [Tryd.params5] at hA hval
  obtain ⟨v0, vs0, d0, ds0, p0, q0, hargs, rfl, rfl, h0, r0⟩ := trodAll_cons hA
  obtain ⟨v1, vs1, d1, ds1, p1, q1, rfl, rfl, rfl, h1, r1⟩ := trodAll_cons r0
  obtain ⟨rfl, rfl, rfl⟩ := trodAll_nil r1
  obtain rfl : args = #[v0, v1] := by cases args; simp_all
  obtain ⟨rfl, rfl⟩ := trodVars_none hV
  obtain ⟨x0, y0, z0⟩ := arg_read bears22 h0 (hval 0 22 v0 rfl rfl)
  obtain ⟨x1, y1, z1⟩ := arg_read bears33 h1 (hval 1 33 v1 rfl rfl)
  obtain ⟨n0, rfl, w0⟩ := has_attrs y0
  obtain ⟨n1, rfl, w1⟩ := y1
  refine (law_calls (G := fun _ => none) (l_offsets n0 n1 (maxLen_lt w0)) (fun g cs e => by simp at e) rfl ?_).mono fun e W' ⟨he, hg⟩ => ?_
  · intro i hi
    match i, hi with
    | 0, _ => exact z0
    | 1, _ => exact z1
  · subst he
    exact ⟨_, rfl, law_post (tb := 4) rfl laidOut (by rw [Tryd.params5]; exact fun t ht => int_params t ((by decide : ∀ t ∈ [22, 33], t ∈ rowTypes) t ht)) rfl Tryd.underlying4 rfl rfl rfl hW' hg⟩

def args_extattrOffsets : Array Value := #[.slice none 0 0, .int .u32 0]
theorem laid_met_extattrOffsets (os : Os) : laidMet Tryd.prog Rows.extattrOffsetsRow.laid ((laidWorld os).forCall (fun _ _ => 0) ⟨#[], args_extattrOffsets, []⟩).memory := laid_met os _
theorem reads_extattrOffsets (os : Os) {H : Type} (enc : TypeId × Value → H) : ∃ places, DataW.whole enc Tryd.prog ((laidWorld os).forCall (fun _ _ => 0) ⟨#[], args_extattrOffsets, []⟩).memory Tryd.f5.params.toList Rows.extattrOffsetsSpec.vars false args_extattrOffsets.toList 8 = some ([.nil, .lit (.int .u32 0)], [], places) :=
  ⟨[], by kernel_rfl⟩
set_option maxRecDepth 100000 in
theorem lifted_extattrOffsets (os : Os) (started : os.Started) (H : Type) (enc : TypeId × Value → H) (F : Stop.Interp) :
    ReturnsInHanded {} Tryd.checked os 5 .any ((OpenSpec.ofChange Rows.extattrOffsetsSpec).preRow enc Tryd.prog Tryd.f5 Rows.extattrOffsetsRow.domain false Rows.extattrOffsetsRow.laid) (((OpenSpec.ofChange Rows.extattrOffsetsSpec).at F).post enc Tryd.prog Tryd.f5 false true false false) := by
  obtain ⟨places, hx⟩ := reads_extattrOffsets os enc
  refine returnsInHanded_of_row (C := Tryd.checked) (s := OpenSpec.ofChange Rows.extattrOffsetsSpec) own started (by kernel_rfl) Tryd.func5
    (witness_row_at (enc := enc) (C := Tryd.checked) false (laidWorld os) args_extattrOffsets rfl (world_vars os _) (world_rest os _) (by as_aux_lemma => kernel_rfl)
      (OpenSpec.preRow_of_cond 8 hx (by kernel_rfl) (fun k hk => by cases hk) (by kernel_rfl) (laid_met_extattrOffsets os))) ?_
  intro W base args ds gs before hval hW _ _ _ hL _ _
  exact contract_extattrOffsets H enc W base args ds gs before hval hW
theorem said_extattrOffsets : Rows.ExtattrOffsetsSaid :=
  OpenClaim.holds_of_cond 5 Tryd.f5 rfl rfl rfl rfl rfl rfl rfl ⟨rfl, rfl, rfl, rfl, rfl⟩ rfl rfl rfl rfl rfl (by kernel_rfl) Tryd.func5 (by kernel_rfl)
    (of_decide_eq_true (by kernel_rfl)) (by unfold Func.isWrapper; first | (rw [if_pos (by decide +kernel)]; kernel_rfl) | (rw [if_neg (by decide +kernel)]; exact ⟨rfl, rfl⟩))
    (fun os started H enc _ F => by rw [OpenClaim.pre_eq_preRow]; exact lifted_extattrOffsets os started H enc F)
theorem plain_extattrOffsets (f : FuncId) (fn : Func) (hf : Tryd.pinned.checked.prog.funcNamed "masterdisc/masterdisclaw42.ExtattrOffsets" = some f) (hfn : Tryd.pinned.checked.prog.funcs[f]? = some fn) :
    false = Tryd.pinned.checked.prog.looks [] ∧ ∀ (j : Nat) t, fn.params[j]? = some t → Tryd.pinned.checked.prog.wantsStandIn t = false := by
  obtain rfl : f = 5 := Option.some.inj ((show Tryd.prog.funcNamed "masterdisc/masterdisclaw42.ExtattrOffsets" = some 5 by kernel_rfl).symm.trans hf) |>.symm
  obtain rfl : fn = Tryd.f5 := (Option.some.inj (Tryd.func5.symm.trans hfn)).symm
  refine ⟨no_looks, fun j t ht => no_standIn t ?_⟩
  have hm := Array.mem_of_getElem? ht
  rw [Tryd.params5] at hm
  exact (by decide : ∀ t ∈ [22, 33], t ∈ rowTypes) t (by simpa using hm)
end Go.Proofs.YtjmldlknegbimaaDoor.Sx
namespace Go.Proofs.YtjmldlknegbimaaDoor
open Go Sx
/-- THE CARD. -/
theorem extattrOffsets_card : Rows.ExtattrOffsetsCardSaid :=
  Claim7.holds_tied_plain_at .later [] _ _ _ _ said_extattrOffsets (fun _ h => by cases h) (by kernel_rfl) (fun _ h => by cases h) extattrOffsets_row_tie rfl ⟨rfl, rfl⟩ (by kernel_rfl) rfl plain_extattrOffsets (by kernel_rfl)
end Go.Proofs.YtjmldlknegbimaaDoor
