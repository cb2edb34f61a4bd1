/- The reference of chapter 35: Decode. -/
import Derived.Test.YtjmldlknegbimaaGreatDoorB33
set_option linter.unusedVariables false
set_option linter.unusedSimpArgs false
namespace Go.Proofs.YtjmldlknegbimaaGreatDoor.Sx
open Go Go.RowKit
variable {G : Gl}
theorem rd_one (s : List UInt8) (a : Nat) (h : a < s.length) : readN (partOf s (a : Int) 1) = (s[a]).toNat := by
  unfold partOf
  rw [Int.toNat_natCast, List.drop_eq_getElem_cons h]
  show (s[a]).toNat + 256 * 0 = _
  omega
theorem bits_div : ∀ c : Nat, decide ((c : Int).tmod 2 = 1) = bitAt c 0 ∧ decide ((((c : Int).tdiv 2)).tmod 2 = 1) = bitAt c 1 ∧ decide ((((c : Int).tdiv 4)).tmod 2 = 1) = bitAt c 2 ∧ decide ((((c : Int).tdiv 8)).tmod 2 = 1) = bitAt c 3 ∧ decide ((((c : Int).tdiv 16)).tmod 2 = 1) = bitAt c 4 := by
  intro c
  simp only [bitAt, Int.tdiv_eq_ediv_of_nonneg (show (0 : Int) ≤ c by omega)]
  rw [Int.tmod_eq_emod_of_nonneg (by omega), Int.tmod_eq_emod_of_nonneg (by omega), Int.tmod_eq_emod_of_nonneg (by omega), Int.tmod_eq_emod_of_nonneg (by omega), Int.tmod_eq_emod_of_nonneg (by omega)]
  refine ⟨?_, ?_, ?_, ?_, ?_⟩ <;> rw [decide_eq_decide] <;> omega
set_option maxRecDepth 8000 in
theorem p_rfdecode (s : List UInt8) (loc : Int) (hs : s.length < 2 ^ 30) : PF Tryz.prog G 12 [.str s, .int .i64 loc] (decFV s loc) := by
  have bad := @decFV_none s loc
  refine PF.of_body mo Tryz.func12 rfl (by kernel_rfl) (by kernel_rfl) (by simp [Tryz.ntmps12]) ?_; simp only [go_sem, Nat.reduceBEq, Nat.reduceAdd, Nat.reduceMul, Nat.reduceSub, Nat.reduceLeDiff, Int.reduceAdd, Int.reduceSub, Int.reduceMul, Int.reduceLE, Int.reduceLT, Int.reduceEq, Int.reduceNeg, Int.reduceToNat, Int.reduceTDiv, Int.reduceTMod, reduceIte, Nat.reduceEqDiff, Nat.reducePow, Int.reducePow, Tryz.results12]
  refine callK_pf (p_rtagIs s 257 loc hs) (by first | (simp only [go_sem, Nat.reduceBEq, Nat.reduceAdd, Nat.reduceMul, Nat.reduceSub, Nat.reduceLeDiff, Int.reduceAdd, Int.reduceSub, Int.reduceMul, Int.reduceLE, Int.reduceLT, Int.reduceEq, Int.reduceNeg, Int.reduceToNat, Int.reduceTDiv, Int.reduceTMod, reduceIte, Nat.reduceEqDiff, Nat.reducePow, Int.reducePow]; done) | (simp only [go_sem, Nat.reduceBEq, Nat.reduceAdd, Nat.reduceMul, Nat.reduceSub, Nat.reduceLeDiff, Int.reduceAdd, Int.reduceSub, Int.reduceMul, Int.reduceLE, Int.reduceLT, Int.reduceEq, Int.reduceNeg, Int.reduceToNat, Int.reduceTDiv, Int.reduceTMod, reduceIte, Nat.reduceEqDiff, Nat.reducePow, Int.reducePow]; rfl) | rfl) ?_; simp only [go_sem, Nat.reduceBEq, Nat.reduceAdd, Nat.reduceMul, Nat.reduceSub, Nat.reduceLeDiff, Int.reduceAdd, Int.reduceSub, Int.reduceMul, Int.reduceLE, Int.reduceLT, Int.reduceEq, Int.reduceNeg, Int.reduceToNat, Int.reduceTDiv, Int.reduceTMod, reduceIte, Nat.reduceEqDiff, Nat.reducePow, Int.reducePow]
  (first | with_reducible refine gO_not ?_ ?_ | with_reducible refine gT_not ?_ ?_ | refine gO_split ?_ ?_ | refine gT_split ?_ ?_) <;> intro h1 <;> simp only [go_sem, Nat.reduceBEq, Nat.reduceAdd, Nat.reduceMul, Nat.reduceSub, Nat.reduceLeDiff, Int.reduceAdd, Int.reduceSub, Int.reduceMul, Int.reduceLE, Int.reduceLT, Int.reduceEq, Int.reduceNeg, Int.reduceToNat, Int.reduceTDiv, Int.reduceTMod, reduceIte, Nat.reduceEqDiff, Nat.reducePow, Int.reducePow, h1]
  · (first | with_reducible refine condW_not ?_ ?_ | refine condW_split ?_ ?_) <;> intro h2 <;> simp only [go_sem, Nat.reduceBEq, Nat.reduceAdd, Nat.reduceMul, Nat.reduceSub, Nat.reduceLeDiff, Int.reduceAdd, Int.reduceSub, Int.reduceMul, Int.reduceLE, Int.reduceLT, Int.reduceEq, Int.reduceNeg, Int.reduceToNat, Int.reduceTDiv, Int.reduceTMod, reduceIte, Nat.reduceEqDiff, Nat.reducePow, Int.reducePow, h2]
    · have := toProp h2
      rw [bad (by rw [decF, if_neg (by rw [tagF, h1]; decide), if_pos (by omega)])]
      rfl
    have hl := toNot h2
    have u1 : useF s < 65536 := readN_le _ 2 (part_le s 36 2)
    have u2 : lenF s < 256 := readN_le _ 1 (part_le s 19 1)
    have i19 : ((s[19]).toNat : Int) = (lenF s : Nat) := by rw [lenF, ← rd_one s 19 (by omega)]; rfl
    obtain ⟨c, hcc⟩ : ∃ c, readN (partOf s 18 1) = c := ⟨_, rfl⟩
    have i18 : ((s[18]).toNat : Int) = (c : Nat) := by rw [← hcc, ← rd_one s 18 (by omega)]; rfl
    have hc2 : c < 256 := by rw [← hcc]; exact readN_le _ 1 (part_le s 18 1)
    have e1 : IntKind.i64.wrap (38 + (useF s : Int)) = ((38 + useF s : Nat) : Int) := by rw [wrap_i64 (by omega) (by omega)]; omega
    have e2 : IntKind.i64.wrap (((38 + useF s : Nat) : Int) + (lenF s : Int)) = (endF s : Nat) := by rw [wrap_i64 (by omega) (by omega), endF]; omega
    have he : endF s < 2 ^ 40 := by unfold endF; omega
    have hse : 38 + useF s ≤ endF s := by unfold endF; omega
    have pn36 : PF Tryz.prog G 44 [.str s, .int .i64 36, .int .i64 2] (.int .i64 (useF s)) := p_number s 36 2 (by omega) (by omega) (by omega) (by omega) (by omega)
    have pn24 := p_number (G := G) s 24 4 (by omega) (by omega) (by omega) (by omega) (by omega)
    have pn28 := p_number (G := G) s 28 2 (by omega) (by omega) (by omega) (by omega) (by omega)
    have pn32 := p_number (G := G) s 32 4 (by omega) (by omega) (by omega) (by omega) (by omega)
    refine ⟨by omega, ?_⟩
    simp only [go_sem, Nat.reduceBEq, Nat.reduceAdd, Nat.reduceMul, Nat.reduceSub, Nat.reduceLeDiff, Int.reduceAdd, Int.reduceSub, Int.reduceMul, Int.reduceLE, Int.reduceLT, Int.reduceEq, Int.reduceNeg, Int.reduceToNat, Int.reduceTDiv, Int.reduceTMod, reduceIte, Nat.reduceEqDiff, Nat.reducePow, Int.reducePow, e1, e2, i19, i18]
    refine callKT_pf (pn36) (by first | (simp only [go_sem, Nat.reduceBEq, Nat.reduceAdd, Nat.reduceMul, Nat.reduceSub, Nat.reduceLeDiff, Int.reduceAdd, Int.reduceSub, Int.reduceMul, Int.reduceLE, Int.reduceLT, Int.reduceEq, Int.reduceNeg, Int.reduceToNat, Int.reduceTDiv, Int.reduceTMod, reduceIte, Nat.reduceEqDiff, Nat.reducePow, Int.reducePow]; done) | (simp only [go_sem, Nat.reduceBEq, Nat.reduceAdd, Nat.reduceMul, Nat.reduceSub, Nat.reduceLeDiff, Int.reduceAdd, Int.reduceSub, Int.reduceMul, Int.reduceLE, Int.reduceLT, Int.reduceEq, Int.reduceNeg, Int.reduceToNat, Int.reduceTDiv, Int.reduceTMod, reduceIte, Nat.reduceEqDiff, Nat.reducePow, Int.reducePow]; rfl) | rfl) ?_; simp only [go_sem, Nat.reduceBEq, Nat.reduceAdd, Nat.reduceMul, Nat.reduceSub, Nat.reduceLeDiff, Int.reduceAdd, Int.reduceSub, Int.reduceMul, Int.reduceLE, Int.reduceLT, Int.reduceEq, Int.reduceNeg, Int.reduceToNat, Int.reduceTDiv, Int.reduceTMod, reduceIte, Nat.reduceEqDiff, Nat.reducePow, Int.reducePow, e1, e2, i19, i18]
    refine ⟨by kernel_rfl, ?_⟩
    refine callK_pf (p_rround (endF s) he) (by first | (simp only [go_sem, Nat.reduceBEq, Nat.reduceAdd, Nat.reduceMul, Nat.reduceSub, Nat.reduceLeDiff, Int.reduceAdd, Int.reduceSub, Int.reduceMul, Int.reduceLE, Int.reduceLT, Int.reduceEq, Int.reduceNeg, Int.reduceToNat, Int.reduceTDiv, Int.reduceTMod, reduceIte, Nat.reduceEqDiff, Nat.reducePow, Int.reducePow]; done) | (simp only [go_sem, Nat.reduceBEq, Nat.reduceAdd, Nat.reduceMul, Nat.reduceSub, Nat.reduceLeDiff, Int.reduceAdd, Int.reduceSub, Int.reduceMul, Int.reduceLE, Int.reduceLT, Int.reduceEq, Int.reduceNeg, Int.reduceToNat, Int.reduceTDiv, Int.reduceTMod, reduceIte, Nat.reduceEqDiff, Nat.reducePow, Int.reducePow]; rfl) | rfl) ?_; simp only [go_sem, Nat.reduceBEq, Nat.reduceAdd, Nat.reduceMul, Nat.reduceSub, Nat.reduceLeDiff, Int.reduceAdd, Int.reduceSub, Int.reduceMul, Int.reduceLE, Int.reduceLT, Int.reduceEq, Int.reduceNeg, Int.reduceToNat, Int.reduceTDiv, Int.reduceTMod, reduceIte, Nat.reduceEqDiff, Nat.reducePow, Int.reducePow, e1, e2, i19, i18]
    (first | with_reducible refine condW_not ?_ ?_ | refine condW_split ?_ ?_) <;> intro h3 <;> simp only [go_sem, Nat.reduceBEq, Nat.reduceAdd, Nat.reduceMul, Nat.reduceSub, Nat.reduceLeDiff, Int.reduceAdd, Int.reduceSub, Int.reduceMul, Int.reduceLE, Int.reduceLT, Int.reduceEq, Int.reduceNeg, Int.reduceToNat, Int.reduceTDiv, Int.reduceTMod, reduceIte, Nat.reduceEqDiff, Nat.reducePow, Int.reducePow, e1, e2, i19, i18, h3]
    · have := toProp h3
      rw [bad (by rw [decF, if_neg (by rw [tagF, h1]; decide), if_neg (by omega), if_pos (by omega)])]
      rfl
    have hr := toNot h3
    have hre : endF s ≤ roundN (endF s) := by unfold roundN; omega
    refine ⟨⟨by omega, by omega, by omega⟩, ?_⟩
    have px := p_rexpand (G := G) (nameF s)
    rw [expV_eq] at px
    obtain ⟨d0, d1, d2, d3, d4⟩ := bits_div c
    have wC : IntKind.i64.wrap (c : Int) = c := wrap_i64 (by omega) (by omega)
    have w2 : IntKind.i64.wrap ((c : Int).tdiv 2) = (c : Int).tdiv 2 := wrap_i64 (by rw [Int.tdiv_eq_ediv_of_nonneg (by omega)]; omega) (by rw [Int.tdiv_eq_ediv_of_nonneg (by omega)]; omega)
    have w4 : IntKind.i64.wrap ((c : Int).tdiv 4) = (c : Int).tdiv 4 := wrap_i64 (by rw [Int.tdiv_eq_ediv_of_nonneg (by omega)]; omega) (by rw [Int.tdiv_eq_ediv_of_nonneg (by omega)]; omega)
    have w8 : IntKind.i64.wrap ((c : Int).tdiv 8) = (c : Int).tdiv 8 := wrap_i64 (by rw [Int.tdiv_eq_ediv_of_nonneg (by omega)]; omega) (by rw [Int.tdiv_eq_ediv_of_nonneg (by omega)]; omega)
    have w16 : IntKind.i64.wrap ((c : Int).tdiv 16) = (c : Int).tdiv 16 := wrap_i64 (by rw [Int.tdiv_eq_ediv_of_nonneg (by omega)]; omega) (by rw [Int.tdiv_eq_ediv_of_nonneg (by omega)]; omega)
    have hat : atF s = ⟨expS (nameF s), bitAt c 0, bitAt c 1, bitAt c 2, bitAt c 3, bitAt c 4, readN (partOf s 24 4), readN (partOf s 28 2), readN (partOf s 32 4)⟩ := by rw [atF, hcc]
    have hel : entEl (atF s) = [.str (expS (nameF s)), .bool (bitAt c 0), .bool (bitAt c 1), .bool (bitAt c 2), .bool (bitAt c 3), .bool (bitAt c 4), .int .i64 (readN (partOf s 24 4)), .int .i64 (readN (partOf s 28 2)), .int .i64 (readN (partOf s 32 4))] := by rw [hat]; rfl
    have pen := p_entry2 (G := G) (atF s)
    rw [hel] at pen
    refine callK_pf px (by simp only [go_sem, Nat.reduceBEq, Nat.reduceAdd, Nat.reduceMul, Nat.reduceSub, Nat.reduceLeDiff, Int.reduceAdd, Int.reduceSub, Int.reduceMul, Int.reduceLE, Int.reduceLT, Int.reduceEq, Int.reduceNeg, Int.reduceToNat, Int.reduceTDiv, Int.reduceTMod, reduceIte, Nat.reduceEqDiff, Nat.reducePow, Int.reducePow, e1, e2, i19, i18]; rfl) ?_
    simp only [go_sem, Nat.reduceBEq, Nat.reduceAdd, Nat.reduceMul, Nat.reduceSub, Nat.reduceLeDiff, Int.reduceAdd, Int.reduceSub, Int.reduceMul, Int.reduceLE, Int.reduceLT, Int.reduceEq, Int.reduceNeg, Int.reduceToNat, Int.reduceTDiv, Int.reduceTMod, reduceIte, Nat.reduceEqDiff, Nat.reducePow, Int.reducePow, e1, e2, i19, i18, wC, w2, w4, w8, w16, d0, d1, d2, d3, d4]
    refine ⟨by omega, ?_⟩
    refine callK_pf (pn24) (by first | (simp only [go_sem, Nat.reduceBEq, Nat.reduceAdd, Nat.reduceMul, Nat.reduceSub, Nat.reduceLeDiff, Int.reduceAdd, Int.reduceSub, Int.reduceMul, Int.reduceLE, Int.reduceLT, Int.reduceEq, Int.reduceNeg, Int.reduceToNat, Int.reduceTDiv, Int.reduceTMod, reduceIte, Nat.reduceEqDiff, Nat.reducePow, Int.reducePow]; done) | (simp only [go_sem, Nat.reduceBEq, Nat.reduceAdd, Nat.reduceMul, Nat.reduceSub, Nat.reduceLeDiff, Int.reduceAdd, Int.reduceSub, Int.reduceMul, Int.reduceLE, Int.reduceLT, Int.reduceEq, Int.reduceNeg, Int.reduceToNat, Int.reduceTDiv, Int.reduceTMod, reduceIte, Nat.reduceEqDiff, Nat.reducePow, Int.reducePow]; rfl) | rfl) ?_; simp only [go_sem, Nat.reduceBEq, Nat.reduceAdd, Nat.reduceMul, Nat.reduceSub, Nat.reduceLeDiff, Int.reduceAdd, Int.reduceSub, Int.reduceMul, Int.reduceLE, Int.reduceLT, Int.reduceEq, Int.reduceNeg, Int.reduceToNat, Int.reduceTDiv, Int.reduceTMod, reduceIte, Nat.reduceEqDiff, Nat.reducePow, Int.reducePow, e1, e2, i19, i18, wC, w2, w4, w8, w16, d0, d1, d2, d3, d4]
    refine callK_pf (pn28) (by first | (simp only [go_sem, Nat.reduceBEq, Nat.reduceAdd, Nat.reduceMul, Nat.reduceSub, Nat.reduceLeDiff, Int.reduceAdd, Int.reduceSub, Int.reduceMul, Int.reduceLE, Int.reduceLT, Int.reduceEq, Int.reduceNeg, Int.reduceToNat, Int.reduceTDiv, Int.reduceTMod, reduceIte, Nat.reduceEqDiff, Nat.reducePow, Int.reducePow]; done) | (simp only [go_sem, Nat.reduceBEq, Nat.reduceAdd, Nat.reduceMul, Nat.reduceSub, Nat.reduceLeDiff, Int.reduceAdd, Int.reduceSub, Int.reduceMul, Int.reduceLE, Int.reduceLT, Int.reduceEq, Int.reduceNeg, Int.reduceToNat, Int.reduceTDiv, Int.reduceTMod, reduceIte, Nat.reduceEqDiff, Nat.reducePow, Int.reducePow]; rfl) | rfl) ?_; simp only [go_sem, Nat.reduceBEq, Nat.reduceAdd, Nat.reduceMul, Nat.reduceSub, Nat.reduceLeDiff, Int.reduceAdd, Int.reduceSub, Int.reduceMul, Int.reduceLE, Int.reduceLT, Int.reduceEq, Int.reduceNeg, Int.reduceToNat, Int.reduceTDiv, Int.reduceTMod, reduceIte, Nat.reduceEqDiff, Nat.reducePow, Int.reducePow, e1, e2, i19, i18, wC, w2, w4, w8, w16, d0, d1, d2, d3, d4]
    refine callK_pf (pn32) (by first | (simp only [go_sem, Nat.reduceBEq, Nat.reduceAdd, Nat.reduceMul, Nat.reduceSub, Nat.reduceLeDiff, Int.reduceAdd, Int.reduceSub, Int.reduceMul, Int.reduceLE, Int.reduceLT, Int.reduceEq, Int.reduceNeg, Int.reduceToNat, Int.reduceTDiv, Int.reduceTMod, reduceIte, Nat.reduceEqDiff, Nat.reducePow, Int.reducePow]; done) | (simp only [go_sem, Nat.reduceBEq, Nat.reduceAdd, Nat.reduceMul, Nat.reduceSub, Nat.reduceLeDiff, Int.reduceAdd, Int.reduceSub, Int.reduceMul, Int.reduceLE, Int.reduceLT, Int.reduceEq, Int.reduceNeg, Int.reduceToNat, Int.reduceTDiv, Int.reduceTMod, reduceIte, Nat.reduceEqDiff, Nat.reducePow, Int.reducePow]; rfl) | rfl) ?_; simp only [go_sem, Nat.reduceBEq, Nat.reduceAdd, Nat.reduceMul, Nat.reduceSub, Nat.reduceLeDiff, Int.reduceAdd, Int.reduceSub, Int.reduceMul, Int.reduceLE, Int.reduceLT, Int.reduceEq, Int.reduceNeg, Int.reduceToNat, Int.reduceTDiv, Int.reduceTMod, reduceIte, Nat.reduceEqDiff, Nat.reducePow, Int.reducePow, e1, e2, i19, i18, wC, w2, w4, w8, w16, d0, d1, d2, d3, d4]
    (first | with_reducible refine gO_not ?_ ?_ | with_reducible refine gT_not ?_ ?_ | refine gO_split ?_ ?_ | refine gT_split ?_ ?_) <;> intro h4 <;> simp only [go_sem, Nat.reduceBEq, Nat.reduceAdd, Nat.reduceMul, Nat.reduceSub, Nat.reduceLeDiff, Int.reduceAdd, Int.reduceSub, Int.reduceMul, Int.reduceLE, Int.reduceLT, Int.reduceEq, Int.reduceNeg, Int.reduceToNat, Int.reduceTDiv, Int.reduceTMod, reduceIte, Nat.reduceEqDiff, Nat.reducePow, Int.reducePow, e1, e2, i19, i18, wC, w2, w4, w8, w16, d0, d1, d2, d3, d4, h4]
    · have hx0 := toProp h4
      refine callK_pf (pen) (by first | (simp only [go_sem, Nat.reduceBEq, Nat.reduceAdd, Nat.reduceMul, Nat.reduceSub, Nat.reduceLeDiff, Int.reduceAdd, Int.reduceSub, Int.reduceMul, Int.reduceLE, Int.reduceLT, Int.reduceEq, Int.reduceNeg, Int.reduceToNat, Int.reduceTDiv, Int.reduceTMod, reduceIte, Nat.reduceEqDiff, Nat.reducePow, Int.reducePow]; done) | (simp only [go_sem, Nat.reduceBEq, Nat.reduceAdd, Nat.reduceMul, Nat.reduceSub, Nat.reduceLeDiff, Int.reduceAdd, Int.reduceSub, Int.reduceMul, Int.reduceLE, Int.reduceLT, Int.reduceEq, Int.reduceNeg, Int.reduceToNat, Int.reduceTDiv, Int.reduceTMod, reduceIte, Nat.reduceEqDiff, Nat.reducePow, Int.reducePow]; rfl) | rfl) ?_; simp only [go_sem, Nat.reduceBEq, Nat.reduceAdd, Nat.reduceMul, Nat.reduceSub, Nat.reduceLeDiff, Int.reduceAdd, Int.reduceSub, Int.reduceMul, Int.reduceLE, Int.reduceLT, Int.reduceEq, Int.reduceNeg, Int.reduceToNat, Int.reduceTDiv, Int.reduceTMod, reduceIte, Nat.reduceEqDiff, Nat.reducePow, Int.reducePow, e1, e2, i19, i18, wC, w2, w4, w8, w16, d0, d1, d2, d3, d4]
      (first | with_reducible refine condW_not ?_ ?_ | refine condW_split ?_ ?_) <;> intro h6 <;> simp only [go_sem, Nat.reduceBEq, Nat.reduceAdd, Nat.reduceMul, Nat.reduceSub, Nat.reduceLeDiff, Int.reduceAdd, Int.reduceSub, Int.reduceMul, Int.reduceLE, Int.reduceLT, Int.reduceEq, Int.reduceNeg, Int.reduceToNat, Int.reduceTDiv, Int.reduceTMod, reduceIte, Nat.reduceEqDiff, Nat.reducePow, Int.reducePow, e1, e2, i19, i18, wC, w2, w4, w8, w16, d0, d1, d2, d3, d4, h6]
      · rw [bad (by rw [decF, if_neg (by rw [tagF, h1]; decide), if_neg (by omega), if_neg (by omega), if_neg (by simpa using hx0), if_pos h6])]
        rfl
      · rw [decFV_some (r := (atF s, roundN (endF s))) (by rw [decF, if_neg (by rw [tagF, h1]; decide), if_neg (by omega), if_neg (by omega), if_neg (by simpa using hx0), if_neg (by rw [h6]; decide)])]
        simp only [hel]
    · have hx0 := toNot h4
      rw [bad (by rw [decF, if_neg (by rw [tagF, h1]; decide), if_neg (by omega), if_neg (by omega), if_pos hx0])]
      rfl
  · rw [bad (by rw [decF, if_pos (by rw [tagF, h1])])]
    rfl
end Go.Proofs.YtjmldlknegbimaaGreatDoor.Sx
