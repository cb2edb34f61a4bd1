/- Spaces of attributes: Decode, both sides. -/
import Derived.Test.YtjmldlknegbimaaDoorB9
set_option linter.unusedVariables false
set_option linter.unusedSimpArgs false
namespace Go.Proofs.YtjmldlknegbimaaDoor.Sx
open Go Go.RowKit
variable {G : Gl}
/-- One attribute at the front, and its length. -/
def decBad (r : List UInt8) : Bool := decide ((readN (partOf r 8 4) : Int) < 16) || (!decide ((readN (partOf r 8 4) : Int).tmod 4 = 0) || (decide ((r.length : Int) < (readN (partOf r 8 4) : Int)) || decide ((readN (partOf r 8 4) : Int) - 16 < (readN (partOf r 12 4) : Int))))
def decAt (r : List UInt8) : Attr := ⟨readN (partOf r 0 4), readN (partOf r 4 1), partOf r 16 (readN (partOf r 12 4))⟩
def decA (r : List UInt8) : Option (List Attr) :=
  if hr : r.length = 0 then some []
  else if r.length < 16 then none
  else if hb : decBad r = true then none
  else (decA (r.drop (readN (partOf r 8 4)))).map (decAt r :: ·)
termination_by r.length
decreasing_by
  simp only [decBad, Bool.or_eq_true, decide_eq_true_eq, not_or] at hb
  rw [List.length_drop]
  omega
def decV (s : List UInt8) (loc : Int) : DV :=
  if decide (2048 < (s.length : Int)) = true then .tup [.sl .any [], .int .i64 7]
  else if s.length = 0 then .tup [.sl .any [], .int .i64 0]
  else if ((tagFaults s loc).isEmpty && decide ((readN (partOf s 0 2) : Int) = 262)) = false ∨ s.length < 24 then .tup [.sl .any [], .int .i64 10]
  else match decA (s.drop 24) with
    | none => .tup [.sl .any [], .int .i64 10]
    | some l => if validA l = true then .tup [.sl .any (l.map attrEl), .int .i64 0] else .tup [.sl .any [], .int .i64 10]
theorem p_dec1 (s : List UInt8) (a w : Int) (hs : s.length < 2 ^ 40) (ha : 0 ≤ a) (hw : 1 ≤ w) (hw2 : w ≤ 4) (hin : a + w ≤ s.length) : PF Tryd.prog G 58 [.str s, .int .i64 a, .int .i64 w] (.int .i64 (readN (partOf s a w))) := by
  have h1 := readN_lt (partOf s a w)
  have h2 : (256 : Nat) ^ (partOf s a w).length ≤ 256 ^ 4 := Nat.pow_le_pow_right (by decide) (by simp [partOf]; omega)
  have he : readErr s a w = 0 := by
    unfold readErr insideB
    rw [if_neg (by omega), if_pos (by simp; omega), if_pos (by omega)]
  refine PF.of_body mo Tryd.func58 rfl (by kernel_rfl) (by kernel_rfl) (by simp [Tryd.ntmps58]) ?_
  simp only [go_sem, Nat.reduceBEq, Nat.reduceAdd, Nat.reduceMul, Nat.reduceSub, Nat.reduceLeDiff, Int.reduceAdd, Int.reduceSub, Int.reduceMul, Int.reduceLE, Int.reduceLT, Int.reduceEq, Int.reduceNeg, Int.reduceToNat, Int.reduceTDiv, Int.reduceTMod, reduceIte, Nat.reduceEqDiff, Nat.reducePow, Int.reducePow, Tryd.results58]
  refine callK_pf (p_readLittle s a w hs) (by first | (simp only [go_sem, Nat.reduceBEq, Nat.reduceAdd, Nat.reduceMul, Nat.reduceSub, Nat.reduceLeDiff, Int.reduceAdd, Int.reduceSub, Int.reduceMul, Int.reduceLE, Int.reduceLT, Int.reduceEq, Int.reduceNeg, Int.reduceToNat, Int.reduceTDiv, Int.reduceTMod, reduceIte, Nat.reduceEqDiff, Nat.reducePow, Int.reducePow]; done) | (simp only [go_sem, Nat.reduceBEq, Nat.reduceAdd, Nat.reduceMul, Nat.reduceSub, Nat.reduceLeDiff, Int.reduceAdd, Int.reduceSub, Int.reduceMul, Int.reduceLE, Int.reduceLT, Int.reduceEq, Int.reduceNeg, Int.reduceToNat, Int.reduceTDiv, Int.reduceTMod, reduceIte, Nat.reduceEqDiff, Nat.reducePow, Int.reducePow]; rfl) | rfl) ?_; simp only [go_sem, Nat.reduceBEq, Nat.reduceAdd, Nat.reduceMul, Nat.reduceSub, Nat.reduceLeDiff, Int.reduceAdd, Int.reduceSub, Int.reduceMul, Int.reduceLE, Int.reduceLT, Int.reduceEq, Int.reduceNeg, Int.reduceToNat, Int.reduceTDiv, Int.reduceTMod, reduceIte, Nat.reduceEqDiff, Nat.reducePow, Int.reducePow]
  rw [readV, if_pos he]
  simp only [go_sem, Nat.reduceBEq, Nat.reduceAdd, Nat.reduceMul, Nat.reduceSub, Nat.reduceLeDiff, Int.reduceAdd, Int.reduceSub, Int.reduceMul, Int.reduceLE, Int.reduceLT, Int.reduceEq, Int.reduceNeg, Int.reduceToNat, Int.reduceTDiv, Int.reduceTMod, reduceIte, Nat.reduceEqDiff, Nat.reducePow, Int.reducePow]
set_option maxRecDepth 4000 in
theorem p_xdecode (s : List UInt8) (loc : Int) (hs : s.length < 2 ^ 30) : PF Tryd.prog G 19 [.str s, .int .i64 loc] (decV s loc) := by
  refine PF.of_body mo Tryd.func19 rfl (by kernel_rfl) (by kernel_rfl) (by simp [Tryd.ntmps19]) ?_
  simp only [go_sem, Nat.reduceBEq, Nat.reduceAdd, Nat.reduceMul, Nat.reduceSub, Nat.reduceLeDiff, Int.reduceAdd, Int.reduceSub, Int.reduceMul, Int.reduceLE, Int.reduceLT, Int.reduceEq, Int.reduceNeg, Int.reduceToNat, Int.reduceTDiv, Int.reduceTMod, reduceIte, Nat.reduceEqDiff, Nat.reducePow, Int.reducePow, Tryd.results19]
  (first | with_reducible refine condW_not ?_ ?_ | refine condW_split ?_ ?_) <;> intro h1 <;> simp only [go_sem, Nat.reduceBEq, Nat.reduceAdd, Nat.reduceMul, Nat.reduceSub, Nat.reduceLeDiff, Int.reduceAdd, Int.reduceSub, Int.reduceMul, Int.reduceLE, Int.reduceLT, Int.reduceEq, Int.reduceNeg, Int.reduceToNat, Int.reduceTDiv, Int.reduceTMod, reduceIte, Nat.reduceEqDiff, Nat.reducePow, Int.reducePow, h1]
  · rw [decV, if_pos h1]
  · have hl := toNot h1
    (first | with_reducible refine condW_not ?_ ?_ | refine condW_split ?_ ?_) <;> intro h2 <;> simp only [go_sem, Nat.reduceBEq, Nat.reduceAdd, Nat.reduceMul, Nat.reduceSub, Nat.reduceLeDiff, Int.reduceAdd, Int.reduceSub, Int.reduceMul, Int.reduceLE, Int.reduceLT, Int.reduceEq, Int.reduceNeg, Int.reduceToNat, Int.reduceTDiv, Int.reduceTMod, reduceIte, Nat.reduceEqDiff, Nat.reducePow, Int.reducePow, h2]
    · have : s.length = 0 := by simpa using h2
      rw [decV, if_neg (by rw [h1]; decide), if_pos this]
    · have h0 : s.length ≠ 0 := by intro hc; have : s = [] := List.length_eq_zero_iff.1 hc; rw [this] at h2; simp at h2
      refine callK_pf (p_tIs s 262 loc hs) (by first | (simp only [go_sem, Nat.reduceBEq, Nat.reduceAdd, Nat.reduceMul, Nat.reduceSub, Nat.reduceLeDiff, Int.reduceAdd, Int.reduceSub, Int.reduceMul, Int.reduceLE, Int.reduceLT, Int.reduceEq, Int.reduceNeg, Int.reduceToNat, Int.reduceTDiv, Int.reduceTMod, reduceIte, Nat.reduceEqDiff, Nat.reducePow, Int.reducePow]; done) | (simp only [go_sem, Nat.reduceBEq, Nat.reduceAdd, Nat.reduceMul, Nat.reduceSub, Nat.reduceLeDiff, Int.reduceAdd, Int.reduceSub, Int.reduceMul, Int.reduceLE, Int.reduceLT, Int.reduceEq, Int.reduceNeg, Int.reduceToNat, Int.reduceTDiv, Int.reduceTMod, reduceIte, Nat.reduceEqDiff, Nat.reducePow, Int.reducePow]; rfl) | rfl) ?_; simp only [go_sem, Nat.reduceBEq, Nat.reduceAdd, Nat.reduceMul, Nat.reduceSub, Nat.reduceLeDiff, Int.reduceAdd, Int.reduceSub, Int.reduceMul, Int.reduceLE, Int.reduceLT, Int.reduceEq, Int.reduceNeg, Int.reduceToNat, Int.reduceTDiv, Int.reduceTMod, reduceIte, Nat.reduceEqDiff, Nat.reducePow, Int.reducePow]
      (first | with_reducible refine gO_not ?_ ?_ | with_reducible refine gT_not ?_ ?_ | refine gO_split ?_ ?_ | refine gT_split ?_ ?_) <;> intro h3 <;> simp only [go_sem, Nat.reduceBEq, Nat.reduceAdd, Nat.reduceMul, Nat.reduceSub, Nat.reduceLeDiff, Int.reduceAdd, Int.reduceSub, Int.reduceMul, Int.reduceLE, Int.reduceLT, Int.reduceEq, Int.reduceNeg, Int.reduceToNat, Int.reduceTDiv, Int.reduceTMod, reduceIte, Nat.reduceEqDiff, Nat.reducePow, Int.reducePow, h3]
      · (first | with_reducible refine condW_not ?_ ?_ | refine condW_split ?_ ?_) <;> intro h4 <;> simp only [go_sem, Nat.reduceBEq, Nat.reduceAdd, Nat.reduceMul, Nat.reduceSub, Nat.reduceLeDiff, Int.reduceAdd, Int.reduceSub, Int.reduceMul, Int.reduceLE, Int.reduceLT, Int.reduceEq, Int.reduceNeg, Int.reduceToNat, Int.reduceTDiv, Int.reduceTMod, reduceIte, Nat.reduceEqDiff, Nat.reducePow, Int.reducePow, h4]
        · have := toProp h4
          rw [decV, if_neg (by rw [h1]; decide), if_neg h0, if_pos (.inr (by omega))]
        · have h24 := toNot h4
          refine ⟨by omega, ?_⟩
          have hdv : decV s loc = (match decA (s.drop 24) with
              | none => .tup [.sl .any [], .int .i64 10]
              | some l => if validA l = true then .tup [.sl .any (l.map attrEl), .int .i64 0] else .tup [.sl .any [], .int .i64 10]) := by
            rw [decV, if_neg (by rw [h1]; decide), if_neg h0, if_neg (by rw [h3]; simp; omega)]
          rw [hdv]
          refine wpc_loop (List Attr × List UInt8) (fun q => [(6, .d (.func 58)), (7, .tsl 0 (q.1.map attrEl)), (8, .d (.str q.2))]) (fun q => [.tok 3 q.1.length])
            (fun q => q.1.length + q.2.length ≤ 2048 ∧ (∀ a ∈ q.1, a.data.length ≤ 2048) ∧ decA (s.drop 24) = (decA q.2).map (q.1 ++ ·)) (fun q => q.2.length) ([], s.drop 24)
            (.step _ _ 7 .nil [] 3 _ _ rfl (by decide) (.refl _ _)) (fun q hq => ⟨Nat.zero_le _, rfl, rfl⟩) ⟨by simp; omega, by simp, by simp⟩ rfl ?_ ?_
          · simp only [go_sem, Nat.reduceBEq, Nat.reduceAdd, Nat.reduceMul, Nat.reduceSub, Nat.reduceLeDiff, Int.reduceAdd, Int.reduceSub, Int.reduceMul, Int.reduceLE, Int.reduceLT, Int.reduceEq, Int.reduceNeg, Int.reduceToNat, Int.reduceTDiv, Int.reduceTMod, reduceIte, Nat.reduceEqDiff, Nat.reducePow, Int.reducePow]
          rintro ⟨acc, r⟩ e ⟨i1, i2, i3⟩ ⟨g6, g7, g8, _⟩
          simp only at i1 i2 i3 g7 g8
          simp only [go_sem, Nat.reduceBEq, Nat.reduceAdd, Nat.reduceMul, Nat.reduceSub, Nat.reduceLeDiff, Int.reduceAdd, Int.reduceSub, Int.reduceMul, Int.reduceLE, Int.reduceLT, Int.reduceEq, Int.reduceNeg, Int.reduceToNat, Int.reduceTDiv, Int.reduceTMod, reduceIte, Nat.reduceEqDiff, Nat.reducePow, Int.reducePow, g6, g7, g8]
          (first | with_reducible refine condW_not ?_ ?_ | refine condW_split ?_ ?_) <;> intro h5 <;> simp only [go_sem, Nat.reduceBEq, Nat.reduceAdd, Nat.reduceMul, Nat.reduceSub, Nat.reduceLeDiff, Int.reduceAdd, Int.reduceSub, Int.reduceMul, Int.reduceLE, Int.reduceLT, Int.reduceEq, Int.reduceNeg, Int.reduceToNat, Int.reduceTDiv, Int.reduceTMod, reduceIte, Nat.reduceEqDiff, Nat.reducePow, Int.reducePow, g6, g7, g8, h5]
          · have hr0 : r.length ≠ 0 := by intro hc; have : r = [] := List.length_eq_zero_iff.1 hc; rw [this] at h5; simp at h5
            (first | with_reducible refine condW_not ?_ ?_ | refine condW_split ?_ ?_) <;> intro h6 <;> simp only [go_sem, Nat.reduceBEq, Nat.reduceAdd, Nat.reduceMul, Nat.reduceSub, Nat.reduceLeDiff, Int.reduceAdd, Int.reduceSub, Int.reduceMul, Int.reduceLE, Int.reduceLT, Int.reduceEq, Int.reduceNeg, Int.reduceToNat, Int.reduceTDiv, Int.reduceTMod, reduceIte, Nat.reduceEqDiff, Nat.reducePow, Int.reducePow, g6, g7, g8, h6]
            · have hlt := toProp h6
              have : decA r = none := by rw [decA, dif_neg hr0, if_pos (by omega)]
              rw [i3, this]; rfl
            · have h16 := toNot h6
              refine callK_pf (p_dec1 r 8 4 (by omega) (by omega) (by omega) (by omega) (by omega)) (by first | (simp only [go_sem, Nat.reduceBEq, Nat.reduceAdd, Nat.reduceMul, Nat.reduceSub, Nat.reduceLeDiff, Int.reduceAdd, Int.reduceSub, Int.reduceMul, Int.reduceLE, Int.reduceLT, Int.reduceEq, Int.reduceNeg, Int.reduceToNat, Int.reduceTDiv, Int.reduceTMod, reduceIte, Nat.reduceEqDiff, Nat.reducePow, Int.reducePow]; done) | (simp only [go_sem, Nat.reduceBEq, Nat.reduceAdd, Nat.reduceMul, Nat.reduceSub, Nat.reduceLeDiff, Int.reduceAdd, Int.reduceSub, Int.reduceMul, Int.reduceLE, Int.reduceLT, Int.reduceEq, Int.reduceNeg, Int.reduceToNat, Int.reduceTDiv, Int.reduceTMod, reduceIte, Nat.reduceEqDiff, Nat.reducePow, Int.reducePow]; rfl) | rfl) ?_; simp only [go_sem, Nat.reduceBEq, Nat.reduceAdd, Nat.reduceMul, Nat.reduceSub, Nat.reduceLeDiff, Int.reduceAdd, Int.reduceSub, Int.reduceMul, Int.reduceLE, Int.reduceLT, Int.reduceEq, Int.reduceNeg, Int.reduceToNat, Int.reduceTDiv, Int.reduceTMod, reduceIte, Nat.reduceEqDiff, Nat.reducePow, Int.reducePow, g6, g7, g8]
              refine callK_pf (p_dec1 r 12 4 (by omega) (by omega) (by omega) (by omega) (by omega)) (by first | (simp only [go_sem, Nat.reduceBEq, Nat.reduceAdd, Nat.reduceMul, Nat.reduceSub, Nat.reduceLeDiff, Int.reduceAdd, Int.reduceSub, Int.reduceMul, Int.reduceLE, Int.reduceLT, Int.reduceEq, Int.reduceNeg, Int.reduceToNat, Int.reduceTDiv, Int.reduceTMod, reduceIte, Nat.reduceEqDiff, Nat.reducePow, Int.reducePow]; done) | (simp only [go_sem, Nat.reduceBEq, Nat.reduceAdd, Nat.reduceMul, Nat.reduceSub, Nat.reduceLeDiff, Int.reduceAdd, Int.reduceSub, Int.reduceMul, Int.reduceLE, Int.reduceLT, Int.reduceEq, Int.reduceNeg, Int.reduceToNat, Int.reduceTDiv, Int.reduceTMod, reduceIte, Nat.reduceEqDiff, Nat.reducePow, Int.reducePow]; rfl) | rfl) ?_; simp only [go_sem, Nat.reduceBEq, Nat.reduceAdd, Nat.reduceMul, Nat.reduceSub, Nat.reduceLeDiff, Int.reduceAdd, Int.reduceSub, Int.reduceMul, Int.reduceLE, Int.reduceLT, Int.reduceEq, Int.reduceNeg, Int.reduceToNat, Int.reduceTDiv, Int.reduceTMod, reduceIte, Nat.reduceEqDiff, Nat.reducePow, Int.reducePow, g6, g7, g8]
              have h1n := readN_lt (partOf r 8 4)
              have h2n : (256 : Nat) ^ (partOf r 8 4).length ≤ 256 ^ 4 := Nat.pow_le_pow_right (by decide) (by simp [partOf]; omega)
              have h1m := readN_lt (partOf r 12 4)
              have h2m : (256 : Nat) ^ (partOf r 12 4).length ≤ 256 ^ 4 := Nat.pow_le_pow_right (by decide) (by simp [partOf]; omega)
              have bad : decBad r = true → decA (s.drop 24) = none := fun hb => by
                rw [i3, decA, dif_neg hr0, if_neg (by omega), dif_pos hb]; rfl
              have ew : IntKind.i64.wrap ((readN (partOf r 8 4) : Int) - 16) = readN (partOf r 8 4) - 16 := wrap_i64 (by omega) (by omega)
              (first | with_reducible refine gO_not ?_ ?_ | with_reducible refine gT_not ?_ ?_ | refine gO_split ?_ ?_ | refine gT_split ?_ ?_) <;> intro a1 <;> simp only [go_sem, Nat.reduceBEq, Nat.reduceAdd, Nat.reduceMul, Nat.reduceSub, Nat.reduceLeDiff, Int.reduceAdd, Int.reduceSub, Int.reduceMul, Int.reduceLE, Int.reduceLT, Int.reduceEq, Int.reduceNeg, Int.reduceToNat, Int.reduceTDiv, Int.reduceTMod, reduceIte, Nat.reduceEqDiff, Nat.reducePow, Int.reducePow, g6, g7, g8, ew, a1]
              · (first | with_reducible refine gO_not ?_ ?_ | with_reducible refine gT_not ?_ ?_ | refine gO_split ?_ ?_ | refine gT_split ?_ ?_) <;> intro a2 <;> simp only [go_sem, Nat.reduceBEq, Nat.reduceAdd, Nat.reduceMul, Nat.reduceSub, Nat.reduceLeDiff, Int.reduceAdd, Int.reduceSub, Int.reduceMul, Int.reduceLE, Int.reduceLT, Int.reduceEq, Int.reduceNeg, Int.reduceToNat, Int.reduceTDiv, Int.reduceTMod, reduceIte, Nat.reduceEqDiff, Nat.reducePow, Int.reducePow, g6, g7, g8, ew, a2]
                · (first | with_reducible refine gO_not ?_ ?_ | with_reducible refine gT_not ?_ ?_ | refine gO_split ?_ ?_ | refine gT_split ?_ ?_) <;> intro a3 <;> simp only [go_sem, Nat.reduceBEq, Nat.reduceAdd, Nat.reduceMul, Nat.reduceSub, Nat.reduceLeDiff, Int.reduceAdd, Int.reduceSub, Int.reduceMul, Int.reduceLE, Int.reduceLT, Int.reduceEq, Int.reduceNeg, Int.reduceToNat, Int.reduceTDiv, Int.reduceTMod, reduceIte, Nat.reduceEqDiff, Nat.reducePow, Int.reducePow, g6, g7, g8, ew, a3]
                  · (first | with_reducible refine condW_not ?_ ?_ | refine condW_split ?_ ?_) <;> intro a4 <;> simp only [go_sem, Nat.reduceBEq, Nat.reduceAdd, Nat.reduceMul, Nat.reduceSub, Nat.reduceLeDiff, Int.reduceAdd, Int.reduceSub, Int.reduceMul, Int.reduceLE, Int.reduceLT, Int.reduceEq, Int.reduceNeg, Int.reduceToNat, Int.reduceTDiv, Int.reduceTMod, reduceIte, Nat.reduceEqDiff, Nat.reducePow, Int.reducePow, g6, g7, g8, ew, a4]
                    · rw [bad (by simp only [decBad, a4, go_sem, Nat.reduceBEq, Nat.reduceAdd, Nat.reduceMul, Nat.reduceSub, Nat.reduceLeDiff, Int.reduceAdd, Int.reduceSub, Int.reduceMul, Int.reduceLE, Int.reduceLT, Int.reduceEq, Int.reduceNeg, Int.reduceToNat, Int.reduceTDiv, Int.reduceTMod, reduceIte, Nat.reduceEqDiff, Nat.reducePow, Int.reducePow, g6, g7, g8, ew])]
                    · have hb : decBad r = false := by simp only [decBad, a1, a2, a3, a4, go_sem, Nat.reduceBEq, Nat.reduceAdd, Nat.reduceMul, Nat.reduceSub, Nat.reduceLeDiff, Int.reduceAdd, Int.reduceSub, Int.reduceMul, Int.reduceLE, Int.reduceLT, Int.reduceEq, Int.reduceNeg, Int.reduceToNat, Int.reduceTDiv, Int.reduceTMod, reduceIte, Nat.reduceEqDiff, Nat.reducePow, Int.reducePow, g6, g7, g8, ew]
                      have hd : decA r = (decA (r.drop (readN (partOf r 8 4)))).map (decAt r :: ·) := by
                        rw [decA, dif_neg hr0, if_neg (by omega), dif_neg (by rw [hb]; decide)]
                      have n1 := toNot a1
                      have n3 := toNot a3
                      have n4 := toNot a4
                      refine callKT_pf (p_dec1 r 0 4 (by omega) (by omega) (by omega) (by omega) (by omega)) (by first | (simp only [go_sem, Nat.reduceBEq, Nat.reduceAdd, Nat.reduceMul, Nat.reduceSub, Nat.reduceLeDiff, Int.reduceAdd, Int.reduceSub, Int.reduceMul, Int.reduceLE, Int.reduceLT, Int.reduceEq, Int.reduceNeg, Int.reduceToNat, Int.reduceTDiv, Int.reduceTMod, reduceIte, Nat.reduceEqDiff, Nat.reducePow, Int.reducePow]; done) | (simp only [go_sem, Nat.reduceBEq, Nat.reduceAdd, Nat.reduceMul, Nat.reduceSub, Nat.reduceLeDiff, Int.reduceAdd, Int.reduceSub, Int.reduceMul, Int.reduceLE, Int.reduceLT, Int.reduceEq, Int.reduceNeg, Int.reduceToNat, Int.reduceTDiv, Int.reduceTMod, reduceIte, Nat.reduceEqDiff, Nat.reducePow, Int.reducePow]; rfl) | rfl) ?_; simp only [go_sem, Nat.reduceBEq, Nat.reduceAdd, Nat.reduceMul, Nat.reduceSub, Nat.reduceLeDiff, Int.reduceAdd, Int.reduceSub, Int.reduceMul, Int.reduceLE, Int.reduceLT, Int.reduceEq, Int.reduceNeg, Int.reduceToNat, Int.reduceTDiv, Int.reduceTMod, reduceIte, Nat.reduceEqDiff, Nat.reducePow, Int.reducePow, g6, g7, g8, ew]
                      refine callKT_pf (p_dec1 r 4 1 (by omega) (by omega) (by omega) (by omega) (by omega)) (by first | (simp only [go_sem, Nat.reduceBEq, Nat.reduceAdd, Nat.reduceMul, Nat.reduceSub, Nat.reduceLeDiff, Int.reduceAdd, Int.reduceSub, Int.reduceMul, Int.reduceLE, Int.reduceLT, Int.reduceEq, Int.reduceNeg, Int.reduceToNat, Int.reduceTDiv, Int.reduceTMod, reduceIte, Nat.reduceEqDiff, Nat.reducePow, Int.reducePow]; done) | (simp only [go_sem, Nat.reduceBEq, Nat.reduceAdd, Nat.reduceMul, Nat.reduceSub, Nat.reduceLeDiff, Int.reduceAdd, Int.reduceSub, Int.reduceMul, Int.reduceLE, Int.reduceLT, Int.reduceEq, Int.reduceNeg, Int.reduceToNat, Int.reduceTDiv, Int.reduceTMod, reduceIte, Nat.reduceEqDiff, Nat.reducePow, Int.reducePow]; rfl) | rfl) ?_; simp only [go_sem, Nat.reduceBEq, Nat.reduceAdd, Nat.reduceMul, Nat.reduceSub, Nat.reduceLeDiff, Int.reduceAdd, Int.reduceSub, Int.reduceMul, Int.reduceLE, Int.reduceLT, Int.reduceEq, Int.reduceNeg, Int.reduceToNat, Int.reduceTDiv, Int.reduceTMod, reduceIte, Nat.reduceEqDiff, Nat.reducePow, Int.reducePow, g6, g7, g8, ew]
                      have ew2 : IntKind.i64.wrap (16 + (readN (partOf r 12 4) : Int)) = 16 + (readN (partOf r 12 4) : Int) := wrap_i64 (by omega) (by omega)
                      have es : (r.take (16 + (readN (partOf r 12 4) : Int)).toNat).drop 16 = partOf r 16 (readN (partOf r 12 4)) := by
                        rw [List.drop_take, partOf]
                        congr 1
                        omega
                      rw [ew2, es]
                      refine ⟨by omega, by omega, by kernel_rfl, by omega, (acc ++ [decAt r], r.drop (readN (partOf r 8 4))), ⟨?_, ?_, ?_⟩, ?_, ⟨[], ?_⟩, ?_, rfl⟩
                      · simp; omega
                      · intro a ha
                        simp only [List.mem_append, List.mem_singleton] at ha
                        rcases ha with ha | rfl
                        · exact i2 a ha
                        · simp only [decAt, partOf, List.length_take, List.length_drop]; omega
                      · rw [i3, hd]
                        cases decA (r.drop (readN (partOf r 8 4))) <;> simp
                      · simp; omega
                      · simp
                      · simp only [List.map_append]; rfl
                  · rw [bad (by simp only [decBad, a3, go_sem, Nat.reduceBEq, Nat.reduceAdd, Nat.reduceMul, Nat.reduceSub, Nat.reduceLeDiff, Int.reduceAdd, Int.reduceSub, Int.reduceMul, Int.reduceLE, Int.reduceLT, Int.reduceEq, Int.reduceNeg, Int.reduceToNat, Int.reduceTDiv, Int.reduceTMod, reduceIte, Nat.reduceEqDiff, Nat.reducePow, Int.reducePow, g6, g7, g8, ew])]
                · rw [bad (by simp only [decBad, a2, go_sem, Nat.reduceBEq, Nat.reduceAdd, Nat.reduceMul, Nat.reduceSub, Nat.reduceLeDiff, Int.reduceAdd, Int.reduceSub, Int.reduceMul, Int.reduceLE, Int.reduceLT, Int.reduceEq, Int.reduceNeg, Int.reduceToNat, Int.reduceTDiv, Int.reduceTMod, reduceIte, Nat.reduceEqDiff, Nat.reducePow, Int.reducePow, g6, g7, g8, ew])]
              · rw [bad (by simp only [decBad, a1, go_sem, Nat.reduceBEq, Nat.reduceAdd, Nat.reduceMul, Nat.reduceSub, Nat.reduceLeDiff, Int.reduceAdd, Int.reduceSub, Int.reduceMul, Int.reduceLE, Int.reduceLT, Int.reduceEq, Int.reduceNeg, Int.reduceToNat, Int.reduceTDiv, Int.reduceTMod, reduceIte, Nat.reduceEqDiff, Nat.reducePow, Int.reducePow, g6, g7, g8, ew])]
          · have hr0 : r = [] := by simpa using h5
            subst hr0
            have hd : decA [] = some [] := by rw [decA]; simp
            rw [hd] at i3
            refine callK_pf (p_xvalid acc (by omega) (fun a ha => by have := i2 a ha; omega)) (by first | (simp only [go_sem, Nat.reduceBEq, Nat.reduceAdd, Nat.reduceMul, Nat.reduceSub, Nat.reduceLeDiff, Int.reduceAdd, Int.reduceSub, Int.reduceMul, Int.reduceLE, Int.reduceLT, Int.reduceEq, Int.reduceNeg, Int.reduceToNat, Int.reduceTDiv, Int.reduceTMod, reduceIte, Nat.reduceEqDiff, Nat.reducePow, Int.reducePow]; done) | (simp only [go_sem, Nat.reduceBEq, Nat.reduceAdd, Nat.reduceMul, Nat.reduceSub, Nat.reduceLeDiff, Int.reduceAdd, Int.reduceSub, Int.reduceMul, Int.reduceLE, Int.reduceLT, Int.reduceEq, Int.reduceNeg, Int.reduceToNat, Int.reduceTDiv, Int.reduceTMod, reduceIte, Nat.reduceEqDiff, Nat.reducePow, Int.reducePow]; rfl) | rfl) ?_; simp only [go_sem, Nat.reduceBEq, Nat.reduceAdd, Nat.reduceMul, Nat.reduceSub, Nat.reduceLeDiff, Int.reduceAdd, Int.reduceSub, Int.reduceMul, Int.reduceLE, Int.reduceLT, Int.reduceEq, Int.reduceNeg, Int.reduceToNat, Int.reduceTDiv, Int.reduceTMod, reduceIte, Nat.reduceEqDiff, Nat.reducePow, Int.reducePow, g6, g7, g8]
            rw [i3]
            simp only [Option.map_some, List.append_nil]
            (first | with_reducible refine condW_not ?_ ?_ | refine condW_split ?_ ?_) <;> intro h7 <;> simp only [go_sem, Nat.reduceBEq, Nat.reduceAdd, Nat.reduceMul, Nat.reduceSub, Nat.reduceLeDiff, Int.reduceAdd, Int.reduceSub, Int.reduceMul, Int.reduceLE, Int.reduceLT, Int.reduceEq, Int.reduceNeg, Int.reduceToNat, Int.reduceTDiv, Int.reduceTMod, reduceIte, Nat.reduceEqDiff, Nat.reducePow, Int.reducePow, g6, g7, g8, h7]
      · rw [decV, if_neg (by rw [h1]; decide), if_neg h0, if_pos (.inl h3)]
end Go.Proofs.YtjmldlknegbimaaDoor.Sx
