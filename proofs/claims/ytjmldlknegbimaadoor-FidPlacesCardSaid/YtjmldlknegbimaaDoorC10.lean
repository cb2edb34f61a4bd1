/- FidPlaces on abstract data. -/
import Derived.Test.YtjmldlknegbimaaDoorC9
set_option linter.unusedVariables false
set_option linter.unusedSimpArgs false
namespace Go.Proofs.YtjmldlknegbimaaDoor.Sx
open Go Go.RowKit
set_option maxRecDepth 8000 in
theorem l_places (l : List Ent) (bl : List Int) (hl : l.length < 2 ^ 63) (hb : bl.length < 2 ^ 63) : PF Tryd.prog GT 11 [.sl .any (l.map entEl), .sl .any (bl.map intEl)] (.bool true) := by
  refine PF.of_body mo Tryd.func11 rfl (by kernel_rfl) (by kernel_rfl) (by simp [Tryd.ntmps11]) ?_; simp only [go_sem, Nat.reduceBEq, Nat.reduceAdd, Nat.reduceMul, Nat.reduceSub, Nat.reduceLeDiff, Int.reduceAdd, Int.reduceSub, Int.reduceMul, Int.reduceLE, Int.reduceLT, Int.reduceEq, Int.reduceNeg, Int.reduceToNat, Int.reduceTDiv, Int.reduceTMod, reduceIte, Nat.reduceEqDiff, Nat.reducePow, Int.reducePow, Tryd.results11]
  refine callK_pf (p_awake35) (by first | (simp only [go_sem, Nat.reduceBEq, Nat.reduceAdd, Nat.reduceMul, Nat.reduceSub, Nat.reduceLeDiff, Int.reduceAdd, Int.reduceSub, Int.reduceMul, Int.reduceLE, Int.reduceLT, Int.reduceEq, Int.reduceNeg, Int.reduceToNat, Int.reduceTDiv, Int.reduceTMod, reduceIte, Nat.reduceEqDiff, Nat.reducePow, Int.reducePow]; done) | (simp only [go_sem, Nat.reduceBEq, Nat.reduceAdd, Nat.reduceMul, Nat.reduceSub, Nat.reduceLeDiff, Int.reduceAdd, Int.reduceSub, Int.reduceMul, Int.reduceLE, Int.reduceLT, Int.reduceEq, Int.reduceNeg, Int.reduceToNat, Int.reduceTDiv, Int.reduceTMod, reduceIte, Nat.reduceEqDiff, Nat.reducePow, Int.reducePow]; rfl) | rfl) ?_; simp only [go_sem, Nat.reduceBEq, Nat.reduceAdd, Nat.reduceMul, Nat.reduceSub, Nat.reduceLeDiff, Int.reduceAdd, Int.reduceSub, Int.reduceMul, Int.reduceLE, Int.reduceLT, Int.reduceEq, Int.reduceNeg, Int.reduceToNat, Int.reduceTDiv, Int.reduceTMod, reduceIte, Nat.reduceEqDiff, Nat.reducePow, Int.reducePow, decide_true]
  refine callK_pf (p_fewF l 40 hl) (by first | (simp only [go_sem, Nat.reduceBEq, Nat.reduceAdd, Nat.reduceMul, Nat.reduceSub, Nat.reduceLeDiff, Int.reduceAdd, Int.reduceSub, Int.reduceMul, Int.reduceLE, Int.reduceLT, Int.reduceEq, Int.reduceNeg, Int.reduceToNat, Int.reduceTDiv, Int.reduceTMod, reduceIte, Nat.reduceEqDiff, Nat.reducePow, Int.reducePow]; done) | (simp only [go_sem, Nat.reduceBEq, Nat.reduceAdd, Nat.reduceMul, Nat.reduceSub, Nat.reduceLeDiff, Int.reduceAdd, Int.reduceSub, Int.reduceMul, Int.reduceLE, Int.reduceLT, Int.reduceEq, Int.reduceNeg, Int.reduceToNat, Int.reduceTDiv, Int.reduceTMod, reduceIte, Nat.reduceEqDiff, Nat.reducePow, Int.reducePow]; rfl) | rfl) ?_; simp only [go_sem, Nat.reduceBEq, Nat.reduceAdd, Nat.reduceMul, Nat.reduceSub, Nat.reduceLeDiff, Int.reduceAdd, Int.reduceSub, Int.reduceMul, Int.reduceLE, Int.reduceLT, Int.reduceEq, Int.reduceNeg, Int.reduceToNat, Int.reduceTDiv, Int.reduceTMod, reduceIte, Nat.reduceEqDiff, Nat.reducePow, Int.reducePow, decide_true]
  (first | with_reducible refine gO_not ?_ ?_ | with_reducible refine gT_not ?_ ?_ | refine gO_split ?_ ?_ | refine gT_split ?_ ?_) <;> intro h1 <;> simp only [go_sem, Nat.reduceBEq, Nat.reduceAdd, Nat.reduceMul, Nat.reduceSub, Nat.reduceLeDiff, Int.reduceAdd, Int.reduceSub, Int.reduceMul, Int.reduceLE, Int.reduceLT, Int.reduceEq, Int.reduceNeg, Int.reduceToNat, Int.reduceTDiv, Int.reduceTMod, reduceIte, Nat.reduceEqDiff, Nat.reducePow, Int.reducePow, decide_true, h1]
  · have h40 := fewF_len h1
    (first | with_reducible refine condW_not ?_ ?_ | refine condW_split ?_ ?_) <;> intro h3 <;> simp only [go_sem, Nat.reduceBEq, Nat.reduceAdd, Nat.reduceMul, Nat.reduceSub, Nat.reduceLeDiff, Int.reduceAdd, Int.reduceSub, Int.reduceMul, Int.reduceLE, Int.reduceLT, Int.reduceEq, Int.reduceNeg, Int.reduceToNat, Int.reduceTDiv, Int.reduceTMod, reduceIte, Nat.reduceEqDiff, Nat.reducePow, Int.reducePow, decide_true, h3]
    have hb30 := toNot h3
    have p1 := p_encodeAll l bl (by omega) (by omega)
    unfold encAllV at p1
    rcases encAll_cases l bl with ⟨c1, c2⟩ | ⟨b, hbq⟩
    · have hce : decide ((encAllP l bl).2 = 0) = false := decide_eq_false c1
      rw [c2] at p1
      refine callK_pf (p1) (by first | (simp only [go_sem, Nat.reduceBEq, Nat.reduceAdd, Nat.reduceMul, Nat.reduceSub, Nat.reduceLeDiff, Int.reduceAdd, Int.reduceSub, Int.reduceMul, Int.reduceLE, Int.reduceLT, Int.reduceEq, Int.reduceNeg, Int.reduceToNat, Int.reduceTDiv, Int.reduceTMod, reduceIte, Nat.reduceEqDiff, Nat.reducePow, Int.reducePow]; done) | (simp only [go_sem, Nat.reduceBEq, Nat.reduceAdd, Nat.reduceMul, Nat.reduceSub, Nat.reduceLeDiff, Int.reduceAdd, Int.reduceSub, Int.reduceMul, Int.reduceLE, Int.reduceLT, Int.reduceEq, Int.reduceNeg, Int.reduceToNat, Int.reduceTDiv, Int.reduceTMod, reduceIte, Nat.reduceEqDiff, Nat.reducePow, Int.reducePow]; rfl) | rfl) ?_; simp only [go_sem, Nat.reduceBEq, Nat.reduceAdd, Nat.reduceMul, Nat.reduceSub, Nat.reduceLeDiff, Int.reduceAdd, Int.reduceSub, Int.reduceMul, Int.reduceLE, Int.reduceLT, Int.reduceEq, Int.reduceNeg, Int.reduceToNat, Int.reduceTDiv, Int.reduceTMod, reduceIte, Nat.reduceEqDiff, Nat.reducePow, Int.reducePow, decide_true, hce, Bool.not_false]
    · rw [hbq] at p1
      obtain ⟨q1, q2⟩ := decAll_enc hbq
      refine callK_pf (p1) (by first | (simp only [go_sem, Nat.reduceBEq, Nat.reduceAdd, Nat.reduceMul, Nat.reduceSub, Nat.reduceLeDiff, Int.reduceAdd, Int.reduceSub, Int.reduceMul, Int.reduceLE, Int.reduceLT, Int.reduceEq, Int.reduceNeg, Int.reduceToNat, Int.reduceTDiv, Int.reduceTMod, reduceIte, Nat.reduceEqDiff, Nat.reducePow, Int.reducePow]; done) | (simp only [go_sem, Nat.reduceBEq, Nat.reduceAdd, Nat.reduceMul, Nat.reduceSub, Nat.reduceLeDiff, Int.reduceAdd, Int.reduceSub, Int.reduceMul, Int.reduceLE, Int.reduceLT, Int.reduceEq, Int.reduceNeg, Int.reduceToNat, Int.reduceTDiv, Int.reduceTMod, reduceIte, Nat.reduceEqDiff, Nat.reducePow, Int.reducePow]; rfl) | rfl) ?_; simp only [go_sem, Nat.reduceBEq, Nat.reduceAdd, Nat.reduceMul, Nat.reduceSub, Nat.reduceLeDiff, Int.reduceAdd, Int.reduceSub, Int.reduceMul, Int.reduceLE, Int.reduceLT, Int.reduceEq, Int.reduceNeg, Int.reduceToNat, Int.reduceTDiv, Int.reduceTMod, reduceIte, Nat.reduceEqDiff, Nat.reducePow, Int.reducePow, decide_true]
      have u1 : ¬ 1024 < l.length := by omega
      rw [encAllP, if_neg u1] at hbq
      refine wpc_loop (Nat × List UInt8) (fun q => [(0, .d (.sl .any (l.map entEl))), (1, .d (.sl .any (bl.map intEl))), (5, .d (.str b)), (7, .d (.int .i64 q.2.length)), (34, .d (.sl .any (l.map entEl))), (35, .d (.int .i64 l.length)), (36, .d (.int .i64 q.1))])
        (fun q => []) (fun q => q.1 ≤ l.length ∧ encL bl (l.drop q.1) q.2 = (b, 0)) (fun q => l.length - q.1) (0, [])
        (.refl _ _) (fun q hq => ⟨Nat.zero_le _, rfl, rfl⟩) ⟨Nat.zero_le _, hbq⟩ rfl ?_ ?_
      · simp only [go_sem, Nat.reduceBEq, Nat.reduceAdd, Nat.reduceMul, Nat.reduceSub, Nat.reduceLeDiff, Int.reduceAdd, Int.reduceSub, Int.reduceMul, Int.reduceLE, Int.reduceLT, Int.reduceEq, Int.reduceNeg, Int.reduceToNat, Int.reduceTDiv, Int.reduceTMod, reduceIte, Nat.reduceEqDiff, Nat.reducePow, Int.reducePow, decide_true]
        rfl
      rintro ⟨i, acc⟩ e ⟨hi, ha⟩ ⟨g0, g1, g5, g7, g34, g35, g36, _⟩
      simp only at hi ha g7 g36
      simp only [go_sem, Nat.reduceBEq, Nat.reduceAdd, Nat.reduceMul, Nat.reduceSub, Nat.reduceLeDiff, Int.reduceAdd, Int.reduceSub, Int.reduceMul, Int.reduceLE, Int.reduceLT, Int.reduceEq, Int.reduceNeg, Int.reduceToNat, Int.reduceTDiv, Int.reduceTMod, reduceIte, Nat.reduceEqDiff, Nat.reducePow, Int.reducePow, decide_true, g0, g1, g5, g7, g34, g35, g36]
      (first | with_reducible refine condW_not ?_ ?_ | refine condW_split ?_ ?_) <;> intro h4 <;> simp only [go_sem, Nat.reduceBEq, Nat.reduceAdd, Nat.reduceMul, Nat.reduceSub, Nat.reduceLeDiff, Int.reduceAdd, Int.reduceSub, Int.reduceMul, Int.reduceLE, Int.reduceLT, Int.reduceEq, Int.reduceNeg, Int.reduceToNat, Int.reduceTDiv, Int.reduceTMod, reduceIte, Nat.reduceEqDiff, Nat.reducePow, Int.reducePow, decide_true, g0, g1, g5, g7, g34, g35, g36, h4]
      · have hlt : i < l.length := by have := toProp h4; omega
        have hd : l.drop i = l[i] :: l.drop (i + 1) := List.drop_eq_getElem_cons hlt
        obtain ⟨f, hf⟩ : ∃ f, l[i] = f := ⟨_, rfl⟩
        rw [hd, hf] at ha
        obtain ⟨k1, k2, k3, k4, k5, k6, k7⟩ := encL_cons ha
        obtain ⟨t, ht, _⟩ := encL_pre k6
        have hlen : b.length = acc.length + sizeN f + t.length := by rw [ht, List.length_append, List.length_append, k4]
        have ps := p_fsize f
        rw [sizeV, if_pos k1] at ps
        simp only [entEl] at ps
        obtain ⟨v1, v2, v3, v4, v5⟩ := fidBody_len f k1
        have wA : IntKind.i64.wrap ((acc.length : Int) + (sizeN f : Nat)) = ((acc.length + sizeN f : Nat) : Int) := by rw [wrap_i64 (by omega) (by omega)]; rfl
        have wI : IntKind.i64.wrap ((i : Int) + 1) = ((i + 1 : Nat) : Int) := by rw [wrap_i64 (by omega) (by omega)]; rfl
        have wQ : IntKind.i64.wrap ((acc.length : Int).tdiv 2048) = ((acc.length / 2048 : Nat) : Int) := by rw [Int.tdiv_eq_ediv_of_nonneg (by omega), wrap_i64 (by omega) (by omega)]; omega
        have hq : acc.length / 2048 < bl.length := by simpa [hasB] using k2
        have x1 : decide (((sizeN f : Nat) : Int) < 1) = false := decide_eq_false (by omega)
        have x2 : decide ((b.length : Int) < ((acc.length + sizeN f : Nat) : Int)) = false := decide_eq_false (by omega)
        have x3 : decide ((bl.length : Int) ≤ ((acc.length / 2048 : Nat) : Int)) = false := decide_eq_false (by omega)
        refine ⟨⟨by omega, by omega⟩, ?_⟩
        simp only [go_sem, Nat.reduceBEq, Nat.reduceAdd, Nat.reduceMul, Nat.reduceSub, Nat.reduceLeDiff, Int.reduceAdd, Int.reduceSub, Int.reduceMul, Int.reduceLE, Int.reduceLT, Int.reduceEq, Int.reduceNeg, Int.reduceToNat, Int.reduceTDiv, Int.reduceTMod, reduceIte, Nat.reduceEqDiff, Nat.reducePow, Int.reducePow, decide_true, g0, g1, g5, g7, g34, g35, g36, hf, wA, wI, wQ, x1, x2, x3, Bool.not_false, entEl]
        refine callK_pf (ps) (by first | (simp only [go_sem, Nat.reduceBEq, Nat.reduceAdd, Nat.reduceMul, Nat.reduceSub, Nat.reduceLeDiff, Int.reduceAdd, Int.reduceSub, Int.reduceMul, Int.reduceLE, Int.reduceLT, Int.reduceEq, Int.reduceNeg, Int.reduceToNat, Int.reduceTDiv, Int.reduceTMod, reduceIte, Nat.reduceEqDiff, Nat.reducePow, Int.reducePow]; done) | (simp only [go_sem, Nat.reduceBEq, Nat.reduceAdd, Nat.reduceMul, Nat.reduceSub, Nat.reduceLeDiff, Int.reduceAdd, Int.reduceSub, Int.reduceMul, Int.reduceLE, Int.reduceLT, Int.reduceEq, Int.reduceNeg, Int.reduceToNat, Int.reduceTDiv, Int.reduceTMod, reduceIte, Nat.reduceEqDiff, Nat.reducePow, Int.reducePow]; rfl) | rfl) ?_; simp only [go_sem, Nat.reduceBEq, Nat.reduceAdd, Nat.reduceMul, Nat.reduceSub, Nat.reduceLeDiff, Int.reduceAdd, Int.reduceSub, Int.reduceMul, Int.reduceLE, Int.reduceLT, Int.reduceEq, Int.reduceNeg, Int.reduceToNat, Int.reduceTDiv, Int.reduceTMod, reduceIte, Nat.reduceEqDiff, Nat.reducePow, Int.reducePow, decide_true, g0, g1, g5, g7, g34, g35, g36, hf, wA, wI, wQ, x1, x2, x3, Bool.not_false, entEl]
        have hsl : List.drop acc.length (List.take (acc.length + sizeN f) b) = enfS f (locB bl acc.length) := by
          rw [ht, ← k4, ← List.length_append, List.take_left, List.drop_left]
        have hbl : bl[acc.length / 2048] = locB bl acc.length := by simp [locB, List.getD_eq_getElem?_getD, hq]
        have pd := p_fdecode (enfS f (locB bl acc.length)) (locB bl acc.length) (by rw [k4]; omega)
        rw [decFV_some (by have := k7 []; rwa [List.append_nil] at this)] at pd
        simp only [entEl] at pd
        refine ⟨⟨by omega, by omega, by omega⟩, ⟨by omega, by omega⟩, ?_⟩
        simp only [hsl, hbl]
        refine callKT_pf (pd) (by first | (simp only [go_sem, Nat.reduceBEq, Nat.reduceAdd, Nat.reduceMul, Nat.reduceSub, Nat.reduceLeDiff, Int.reduceAdd, Int.reduceSub, Int.reduceMul, Int.reduceLE, Int.reduceLT, Int.reduceEq, Int.reduceNeg, Int.reduceToNat, Int.reduceTDiv, Int.reduceTMod, reduceIte, Nat.reduceEqDiff, Nat.reducePow, Int.reducePow]; done) | (simp only [go_sem, Nat.reduceBEq, Nat.reduceAdd, Nat.reduceMul, Nat.reduceSub, Nat.reduceLeDiff, Int.reduceAdd, Int.reduceSub, Int.reduceMul, Int.reduceLE, Int.reduceLT, Int.reduceEq, Int.reduceNeg, Int.reduceToNat, Int.reduceTDiv, Int.reduceTMod, reduceIte, Nat.reduceEqDiff, Nat.reducePow, Int.reducePow]; rfl) | rfl) ?_; simp only [go_sem, Nat.reduceBEq, Nat.reduceAdd, Nat.reduceMul, Nat.reduceSub, Nat.reduceLeDiff, Int.reduceAdd, Int.reduceSub, Int.reduceMul, Int.reduceLE, Int.reduceLT, Int.reduceEq, Int.reduceNeg, Int.reduceToNat, Int.reduceTDiv, Int.reduceTMod, reduceIte, Nat.reduceEqDiff, Nat.reducePow, Int.reducePow, decide_true, g0, g1, g5, g7, g34, g35, g36, hf, wA, wI, wQ, x1, x2, x3, Bool.not_false, entEl]
        exact ⟨by kernel_rfl, (i + 1, acc ++ enfS f (locB bl acc.length)), ⟨hlt, k6⟩, by show l.length - (i + 1) < _; omega, ⟨_, rfl⟩, by rw [List.length_append, k4], rfl⟩
      · have : i = l.length := by have := toNot h4; omega
        subst this
        rw [List.drop_length, encL] at ha
        simp only [Prod.mk.injEq, and_true] at ha
        rw [ha]; simp
end Go.Proofs.YtjmldlknegbimaaDoor.Sx
