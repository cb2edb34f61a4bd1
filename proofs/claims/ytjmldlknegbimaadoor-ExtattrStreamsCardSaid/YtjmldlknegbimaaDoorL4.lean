/- THE LAW ExtattrStreams: for every parent address, list of streams, list of addresses, number and list of entries the law answers true, and what came in reads as it did; the listed tables (of unicode/utf8) hold what their texts lay. -/
import Derived.Test.YtjmldlknegbimaaDoorW1
import Derived.Test.YtjmldlknegbimaaDoorW3
import Derived.Test.YtjmldlknegbimaaDoorC6
set_option linter.unusedVariables false
set_option linter.unusedSimpArgs false
namespace Go.Proofs.YtjmldlknegbimaaDoor.Sx
open Go Go.ChangeShapes Go.WideShapes Go.ChangeAt Go.RowKit

set_option maxRecDepth 100000 in
theorem contract_extattrStreams (H : Type) (enc : TypeId × Value → H) (W : World) (base : Nat) (args : Array Value) (ds gs : List (DataW H)) (before : List MemPlace)
    (hval : ∀ (j : Nat) t v, Tryd.f6.params[j]? = some t → args[j]? = some v → Value.okWide Tryd.prog W .any base t v)
    (hW : DataW.Whole enc Tryd.prog Tryd.f6.params.toList Rows.extattrStreamsSpec.vars false W args.toList ds gs before) (hL : laidMetH Tryd.prog Rows.extattrStreamsRow.laid W) :
    Calls Tryd.prog 6 args W fun e W' => ∃ v, e = .returned v ∧ Rows.extattrStreamsSpec.post enc Tryd.prog Tryd.f6 false true false false W args v W' := by
  have hW' := hW
  obtain ⟨p, q, hA0, hV, rfl, hfz, hnd⟩ := hW
  have hA : DataW.TrodAll enc Tryd.prog W 0 (fun _ => true) true Tryd.f6.params.toList args.toList ds p := hA0
  rw [Tryd.params6] at hA hval
  obtain ⟨v0, vs0, d0, ds0, p0, q0, hargs, rfl, rfl, h0, r0⟩ := trodAll_cons hA
  obtain ⟨v1, vs1, d1, ds1, p1, q1, rfl, rfl, rfl, h1, r1⟩ := trodAll_cons r0
  obtain ⟨v2, vs2, d2, ds2, p2, q2, rfl, rfl, rfl, h2, r2⟩ := trodAll_cons r1
  obtain ⟨v3, vs3, d3, ds3, p3, q3, rfl, rfl, rfl, h3, r3⟩ := trodAll_cons r2
  obtain ⟨v4, vs4, d4, ds4, p4, q4, rfl, rfl, rfl, h4, r4⟩ := trodAll_cons r3
  obtain ⟨rfl, rfl, rfl⟩ := trodAll_nil r4
  obtain rfl : args = #[v0, v1, v2, v3, v4] := by cases args; simp_all
  obtain ⟨rfl, rfl⟩ := trodVars_none hV
  obtain ⟨x0, y0, z0⟩ := arg_read bears41 h0 (hval 0 41 v0 rfl rfl)
  obtain ⟨x1, y1, z1⟩ := arg_read bears42 h1 (hval 1 42 v1 rfl rfl)
  obtain ⟨x2, y2, z2⟩ := arg_read bears43 h2 (hval 2 43 v2 rfl rfl)
  obtain ⟨x3, y3, z3⟩ := arg_read bears3 h3 (hval 3 3 v3 rfl rfl)
  obtain ⟨x4, y4, z4⟩ := arg_read bears44 h4 (hval 4 44 v4 rfl rfl)
  obtain ⟨n0, rfl, w0⟩ := has_addr y0
  obtain ⟨n1, rfl, w1⟩ := has_strms y1
  obtain ⟨n2, rfl, w2⟩ := has_addrs y2
  obtain ⟨n3, rfl, w3⟩ := y3
  obtain ⟨n4, rfl, w4⟩ := has_fids y4
  refine (law_calls (G := GT) (l_streams n0 n1 n2 n3 n4 (fids_lt w4)) (gt_ok hL) rfl ?_).mono fun e W' ⟨he, hg⟩ => ?_
  · intro i hi
    match i, hi with
    | 0, _ => exact z0
    | 1, _ => exact z1
    | 2, _ => exact z2
    | 3, _ => exact z3
    | 4, _ => exact z4
  · subst he
    exact ⟨_, rfl, law_post (tb := 4) rfl laidOut (by rw [Tryd.params6]; exact fun t ht => int_params t ((by decide : ∀ t ∈ [41, 42, 43, 3, 44], t ∈ rowTypes) t ht)) rfl Tryd.underlying4 rfl rfl rfl hW' hg⟩

def args_extattrStreams : Array Value := #[.agg #[.int .i64 0, .int .i64 0], .slice none 0 0, .slice none 0 0, .int .i64 0, .slice none 0 0]
theorem laid_met_extattrStreams (os : Os) : laidMet Tryd.prog Rows.extattrStreamsRow.laid ((laidWorld os).forCall (fun _ _ => 0) ⟨#[], args_extattrStreams, []⟩).memory := laid_met os _
theorem reads_extattrStreams (os : Os) {H : Type} (enc : TypeId × Value → H) : ∃ places, DataW.whole enc Tryd.prog ((laidWorld os).forCall (fun _ _ => 0) ⟨#[], args_extattrStreams, []⟩).memory Tryd.f6.params.toList Rows.extattrStreamsSpec.vars false args_extattrStreams.toList 8 = some ([.agg [.lit (.int .i64 0), .lit (.int .i64 0)], .nil, .nil, .lit (.int .i64 0), .nil], [], places) :=
  ⟨[], by kernel_rfl⟩
set_option maxRecDepth 100000 in
theorem lifted_extattrStreams (os : Os) (started : os.Started) (H : Type) (enc : TypeId × Value → H) (F : Stop.Interp) :
    ReturnsInHanded {} Tryd.checked os 6 .any ((OpenSpec.ofChange Rows.extattrStreamsSpec).preRow enc Tryd.prog Tryd.f6 Rows.extattrStreamsRow.domain false Rows.extattrStreamsRow.laid) (((OpenSpec.ofChange Rows.extattrStreamsSpec).at F).post enc Tryd.prog Tryd.f6 false true false false) := by
  obtain ⟨places, hx⟩ := reads_extattrStreams os enc
  refine returnsInHanded_of_row (C := Tryd.checked) (s := OpenSpec.ofChange Rows.extattrStreamsSpec) own started (by kernel_rfl) Tryd.func6
    (witness_row_at (enc := enc) (C := Tryd.checked) false (laidWorld os) args_extattrStreams rfl (world_vars os _) (world_rest os _) (by as_aux_lemma => kernel_rfl)
      (OpenSpec.preRow_of_cond 8 hx (by kernel_rfl) (fun k hk => by cases hk) (by kernel_rfl) (laid_met_extattrStreams os))) ?_
  intro W base args ds gs before hval hW _ _ _ hL _ _
  exact contract_extattrStreams H enc W base args ds gs before hval hW hL
theorem said_extattrStreams : Rows.ExtattrStreamsSaid :=
  OpenClaim.holds_of_cond 6 Tryd.f6 rfl rfl rfl rfl rfl rfl rfl ⟨rfl, rfl, rfl, rfl, rfl⟩ rfl rfl rfl rfl rfl (by kernel_rfl) Tryd.func6 (by kernel_rfl)
    (of_decide_eq_true (by kernel_rfl)) (by unfold Func.isWrapper; first | (rw [if_pos (by decide +kernel)]; kernel_rfl) | (rw [if_neg (by decide +kernel)]; exact ⟨rfl, rfl⟩))
    (fun os started H enc _ F => by rw [OpenClaim.pre_eq_preRow]; exact lifted_extattrStreams os started H enc F)
theorem plain_extattrStreams (f : FuncId) (fn : Func) (hf : Tryd.pinned.checked.prog.funcNamed "masterdisc/masterdisclaw42.ExtattrStreams" = some f) (hfn : Tryd.pinned.checked.prog.funcs[f]? = some fn) :
    false = Tryd.pinned.checked.prog.looks [] ∧ ∀ (j : Nat) t, fn.params[j]? = some t → Tryd.pinned.checked.prog.wantsStandIn t = false := by
  obtain rfl : f = 6 := Option.some.inj ((show Tryd.prog.funcNamed "masterdisc/masterdisclaw42.ExtattrStreams" = some 6 by kernel_rfl).symm.trans hf) |>.symm
  obtain rfl : fn = Tryd.f6 := (Option.some.inj (Tryd.func6.symm.trans hfn)).symm
  refine ⟨no_looks, fun j t ht => no_standIn t ?_⟩
  have hm := Array.mem_of_getElem? ht
  rw [Tryd.params6] at hm
  exact (by decide : ∀ t ∈ [41, 42, 43, 3, 44], t ∈ rowTypes) t (by simpa using hm)
end Go.Proofs.YtjmldlknegbimaaDoor.Sx
namespace Go.Proofs.YtjmldlknegbimaaDoor
open Go Sx
/-- THE CARD. -/
theorem extattrStreams_card : Rows.ExtattrStreamsCardSaid :=
  Claim7.holds_tied_plain_at .later [] _ _ _ _ said_extattrStreams (fun _ h => by cases h) (by kernel_rfl) (fun _ h => by cases h) extattrStreams_row_tie rfl ⟨rfl, rfl⟩ (by kernel_rfl) rfl plain_extattrStreams (by kernel_rfl)
end Go.Proofs.YtjmldlknegbimaaDoor
