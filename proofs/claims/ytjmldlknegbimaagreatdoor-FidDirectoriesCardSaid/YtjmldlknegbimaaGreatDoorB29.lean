/- Directories read: fid.DecodeAll. -/
import Derived.Test.YtjmldlknegbimaaGreatDoorB28
set_option linter.unusedVariables false
set_option linter.unusedSimpArgs false
namespace Go.Proofs.YtjmldlknegbimaaGreatDoor.Sx
open Go Go.RowKit
theorem f_desc {G : Gl} (s : List UInt8) (bl : List Int) (H : List HO) : Fn Tryz.prog G 50 [.d (.str s), .d (.sl .any (bl.map intEl))] H (.clo 79 [.ptr H.length 0, .ptr (H.length + 1) 0]) (H ++ [.box [.d (.str s)], .box [.d (.sl .any (bl.map intEl))]]) := by
  refine Fn.of_body mo Tryz.func50 rfl (by kernel_rfl) (by kernel_rfl) (by simp [Tryz.ntmps50]) ?_; simp only [go_sem, Nat.reduceBEq, Nat.reduceAdd, Nat.reduceMul, Nat.reduceSub, Nat.reduceLeDiff, Int.reduceAdd, Int.reduceSub, Int.reduceMul, Int.reduceLE, Int.reduceLT, Int.reduceEq, Int.reduceNeg, Int.reduceToNat, Int.reduceTDiv, Int.reduceTMod, reduceIte, Nat.reduceEqDiff, Nat.reducePow, Int.reducePow, Tryz.results50]
  simp
section
variable {G : Gl} {P : Program} {n0 id : Nat} {vals : List (Nat × AV)} {ps : List Tmp} {asg bod : Code} {r : AV} {H1 H' : List HO} {e : Env}
@[go_sem] theorem roundMid_n : roundMid P G n0 id vals ps asg bod r H' .normal e H1 = (H1[id]? = some (.loop .ready vals ps asg bod) ∧ wpc P G n0 bod (roundFin id vals ps asg bod r H') e (H1.set id (.loop .busy vals ps asg bod))) := rfl
@[go_sem] theorem roundFin_n : roundFin id vals ps asg bod r H' .normal e H1 = (r = .d (.bool true) ∧ H1[id]? = some (.loop .busy vals ps asg bod) ∧ H' = H1.set id (.loop .ready vals ps asg bod)) := rfl
@[go_sem] theorem roundFin_r : roundFin id vals ps asg bod r H' .ret e H1 = (r = .d (.bool false) ∧ H1[id]? = some (.loop .busy vals ps asg bod) ∧ H' = H1.set id (.loop (.done .ret) vals ps asg bod)) := rfl
end
theorem upd_dS (e : Env) (v : AV) {k : Nat} (h : k < 1000) : upd e dSlot v k = e k := by
  have : ¬ k = dSlot := by unfold dSlot; omega
  simp [upd, this]
theorem upd_dN (e : Env) (v : AV) {k : Nat} (h : k < 1000) : upd e k v dSlot = e dSlot := by
  have : ¬ dSlot = k := by unfold dSlot; omega
  simp [upd, this]
theorem upd_self (e : Env) (v : AV) (k : Nat) : upd e k v k = v := by simp [upd]
theorem p_decodeAll (s : List UInt8) (bl : List Int) (hs : s.length < 2 ^ 30) (hl : bl.length < 2 ^ 40) : PF Tryz.prog GT 16 [.str s, .sl .any (bl.map intEl)] (decAllV s bl) := by
  refine PF.of_range mo Tryz.func16 rfl (by kernel_rfl) (by kernel_rfl) (Nat.le_of_ble_eq_true rfl) (Nat.le_of_ble_eq_true rfl) ?_
  simp only [go_sem, Nat.reduceBEq, Nat.reduceAdd, Nat.reduceMul, Nat.reduceSub, Nat.reduceLeDiff, Int.reduceAdd, Int.reduceSub, Int.reduceMul, Int.reduceLE, Int.reduceLT, Int.reduceEq, Int.reduceNeg, Int.reduceToNat, Int.reduceTDiv, Int.reduceTMod, reduceIte, Nat.reduceEqDiff, Nat.reducePow, Int.reducePow, Tryz.results16]
  refine callK_fn (f_desc s bl _) (by simp only [go_sem, Nat.reduceBEq, Nat.reduceAdd, Nat.reduceMul, Nat.reduceSub, Nat.reduceLeDiff, Int.reduceAdd, Int.reduceSub, Int.reduceMul, Int.reduceLE, Int.reduceLT, Int.reduceEq, Int.reduceNeg, Int.reduceToNat, Int.reduceTDiv, Int.reduceTMod, reduceIte, Nat.reduceEqDiff, Nat.reducePow, Int.reducePow]) ?_
  simp only [go_sem, Nat.reduceBEq, Nat.reduceAdd, Nat.reduceMul, Nat.reduceSub, Nat.reduceLeDiff, Int.reduceAdd, Int.reduceSub, Int.reduceMul, Int.reduceLE, Int.reduceLT, Int.reduceEq, Int.reduceNeg, Int.reduceToNat, Int.reduceTDiv, Int.reduceTMod, reduceIte, Nat.reduceEqDiff, Nat.reducePow, Int.reducePow]
  refine wpc_range 79 [.ptr 3 0, .ptr 4 0] daV rfl ⟨rfl, rfl, rfl, trivial⟩ (by decide +kernel) rfl (fun D => ⟨_, _, f_desc1 (D := D) hs hl (fun acc f ha => ?_) (fun acc f er ha he => ?_), ?_⟩)
  · cases acc with
    | nil =>
      refine YFn.of_body mo (id := 6) rfl rfl (by decide +kernel) rfl rfl ?_
      simp only [go_sem, Nat.reduceBEq, Nat.reduceAdd, Nat.reduceMul, Nat.reduceSub, Nat.reduceLeDiff, Int.reduceAdd, Int.reduceSub, Int.reduceMul, Int.reduceLE, Int.reduceLT, Int.reduceEq, Int.reduceNeg, Int.reduceToNat, Int.reduceTDiv, Int.reduceTMod, reduceIte, Nat.reduceEqDiff, Nat.reducePow, Int.reducePow, daJ, daB, daV, putsA, envOf, List.cons_append, List.nil_append, bxF]
      rfl
    | cons x r =>
      refine YFn.of_body mo (id := 6) rfl rfl (by decide +kernel) rfl rfl ?_
      simp only [go_sem, Nat.reduceBEq, Nat.reduceAdd, Nat.reduceMul, Nat.reduceSub, Nat.reduceLeDiff, Int.reduceAdd, Int.reduceSub, Int.reduceMul, Int.reduceLE, Int.reduceLT, Int.reduceEq, Int.reduceNeg, Int.reduceToNat, Int.reduceTDiv, Int.reduceTMod, reduceIte, Nat.reduceEqDiff, Nat.reducePow, Int.reducePow, daJ, daB, daV, putsA, envOf, List.cons_append, List.nil_append, bxF]
      simp only [List.length_cons] at ha
      refine ⟨⟨by simp [szOk, entEl], by omega⟩, ?_⟩
      show daJ _ _ _ _ _ _ ((x :: r) ++ [f]) ++ _ = _
      simp only [daJ, daB, List.cons_append, List.nil_append, List.map_append, List.map_cons, List.map_nil, List.length_append, List.length_cons, List.length_nil]
      rfl
  · have hee : (decide (er = 0)) = false := decide_eq_false he
    cases acc with
    | nil =>
      refine YFn.of_body mo (id := 6) rfl rfl (by decide +kernel) rfl rfl ?_
      simp only [go_sem, Nat.reduceBEq, Nat.reduceAdd, Nat.reduceMul, Nat.reduceSub, Nat.reduceLeDiff, Int.reduceAdd, Int.reduceSub, Int.reduceMul, Int.reduceLE, Int.reduceLT, Int.reduceEq, Int.reduceNeg, Int.reduceToNat, Int.reduceTDiv, Int.reduceTMod, reduceIte, Nat.reduceEqDiff, Nat.reducePow, Int.reducePow, daJ, daB, daV, putsA, envOf, List.cons_append, List.nil_append, bxF, hee, Bool.not_false]
    | cons x r =>
      refine YFn.of_body mo (id := 6) rfl rfl (by decide +kernel) rfl rfl ?_
      simp only [go_sem, Nat.reduceBEq, Nat.reduceAdd, Nat.reduceMul, Nat.reduceSub, Nat.reduceLeDiff, Int.reduceAdd, Int.reduceSub, Int.reduceMul, Int.reduceLE, Int.reduceLT, Int.reduceEq, Int.reduceNeg, Int.reduceToNat, Int.reduceTDiv, Int.reduceTMod, reduceIte, Nat.reduceEqDiff, Nat.reducePow, Int.reducePow, daJ, daB, daV, putsA, envOf, List.cons_append, List.nil_append, bxF, hee, Bool.not_false]
  · generalize hE : upd _ dSlot (AV.dfr [D]) = E
    have g4 : E 4 = .ptr 0 0 := by rw [← hE, upd_dS _ _ (by decide)]; rfl
    have g5 : E 5 = .ptr 1 0 := by rw [← hE, upd_dS _ _ (by decide)]; rfl
    have g6 : E 6 = .ptr 2 0 := by rw [← hE, upd_dS _ _ (by decide)]; rfl
    have gd : E dSlot = .dfr [D] := by rw [← hE]; exact upd_self ..
    clear hE
    by_cases h0 : (scanF s bl).1 = 0
    · left
      rw [if_pos h0, decAllV, if_pos h0]
      cases (scanF s bl).2.1 with
      | nil =>
        refine ⟨rfl, ?_⟩
        simp only [go_sem, Nat.reduceBEq, Nat.reduceAdd, Nat.reduceMul, Nat.reduceSub, Nat.reduceLeDiff, Int.reduceAdd, Int.reduceSub, Int.reduceMul, Int.reduceLE, Int.reduceLT, Int.reduceEq, Int.reduceNeg, Int.reduceToNat, Int.reduceTDiv, Int.reduceTMod, reduceIte, Nat.reduceEqDiff, Nat.reducePow, Int.reducePow, g4, g5, g6, daJ, daB, List.length_cons, List.length_nil, List.set_cons_succ, List.set_cons_zero]
        refine ⟨⟨.d (.tup [.sl .nil [], .int .i64 0]), ?_, rfl⟩, D, 5, (upd_dN _ _ (by decide)).trans gd, rfl⟩
        simp only [go_sem, Nat.reduceBEq, Nat.reduceAdd, Nat.reduceMul, Nat.reduceSub, Nat.reduceLeDiff, Int.reduceAdd, Int.reduceSub, Int.reduceMul, Int.reduceLE, Int.reduceLT, Int.reduceEq, Int.reduceNeg, Int.reduceToNat, Int.reduceTDiv, Int.reduceTMod, reduceIte, Nat.reduceEqDiff, Nat.reducePow, Int.reducePow, g4, g5]
      | cons x r =>
        refine ⟨rfl, ?_⟩
        simp only [go_sem, Nat.reduceBEq, Nat.reduceAdd, Nat.reduceMul, Nat.reduceSub, Nat.reduceLeDiff, Int.reduceAdd, Int.reduceSub, Int.reduceMul, Int.reduceLE, Int.reduceLT, Int.reduceEq, Int.reduceNeg, Int.reduceToNat, Int.reduceTDiv, Int.reduceTMod, reduceIte, Nat.reduceEqDiff, Nat.reducePow, Int.reducePow, g4, g5, g6, daJ, daB, List.length_cons, List.length_nil, List.set_cons_succ, List.set_cons_zero, List.cons_append, List.nil_append]
        refine ⟨⟨.tup [.tsl 9 (entEl x :: r.map entEl), .d (.int .i64 0)], ?_, rfl⟩, D, 5, (upd_dN _ _ (by decide)).trans gd, rfl⟩
        simp only [go_sem, Nat.reduceBEq, Nat.reduceAdd, Nat.reduceMul, Nat.reduceSub, Nat.reduceLeDiff, Int.reduceAdd, Int.reduceSub, Int.reduceMul, Int.reduceLE, Int.reduceLT, Int.reduceEq, Int.reduceNeg, Int.reduceToNat, Int.reduceTDiv, Int.reduceTMod, reduceIte, Nat.reduceEqDiff, Nat.reducePow, Int.reducePow, g4, g5]
    · right
      left
      rw [if_neg h0, decAllV, if_neg h0]
      cases (scanF s bl).2.1 with
      | nil =>
        refine ⟨rfl, ⟨.d (.tup [.sl .nil [], .int .i64 (scanF s bl).1]), ?_, rfl⟩, D, 5, gd, rfl⟩
        simp only [go_sem, Nat.reduceBEq, Nat.reduceAdd, Nat.reduceMul, Nat.reduceSub, Nat.reduceLeDiff, Int.reduceAdd, Int.reduceSub, Int.reduceMul, Int.reduceLE, Int.reduceLT, Int.reduceEq, Int.reduceNeg, Int.reduceToNat, Int.reduceTDiv, Int.reduceTMod, reduceIte, Nat.reduceEqDiff, Nat.reducePow, Int.reducePow, g4, g5, g6, daJ, daB, List.length_cons, List.length_nil, List.set_cons_succ, List.set_cons_zero, List.cons_append, List.nil_append]
      | cons x r =>
        refine ⟨rfl, ⟨.d (.tup [.sl .nil [], .int .i64 (scanF s bl).1]), ?_, rfl⟩, D, 5, gd, rfl⟩
        simp only [go_sem, Nat.reduceBEq, Nat.reduceAdd, Nat.reduceMul, Nat.reduceSub, Nat.reduceLeDiff, Int.reduceAdd, Int.reduceSub, Int.reduceMul, Int.reduceLE, Int.reduceLT, Int.reduceEq, Int.reduceNeg, Int.reduceToNat, Int.reduceTDiv, Int.reduceTMod, reduceIte, Nat.reduceEqDiff, Nat.reducePow, Int.reducePow, g4, g5, g6, daJ, daB, List.length_cons, List.length_nil, List.set_cons_succ, List.set_cons_zero, List.cons_append, List.nil_append]
end Go.Proofs.YtjmldlknegbimaaGreatDoor.Sx
