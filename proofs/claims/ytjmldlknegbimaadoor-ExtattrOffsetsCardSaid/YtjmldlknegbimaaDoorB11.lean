/- Spaces of attributes: the reference's Decode. -/
import Derived.Test.YtjmldlknegbimaaDoorB10
set_option linter.unusedVariables false
set_option linter.unusedSimpArgs false
namespace Go.Proofs.YtjmldlknegbimaaDoor.Sx
open Go Go.RowKit
variable {G : Gl}
theorem partOf_drop (s : List UInt8) (p : Nat) (a : Int) (w : Int) (ha : 0 ≤ a) : partOf (s.drop p) a w = partOf s ((p : Int) + a) w := by
  obtain ⟨n, rfl⟩ := Int.eq_ofNat_of_zero_le ha
  simp only [partOf, List.drop_drop]
  congr 2
theorem readN_one (s : List UInt8) (a : Int) (h : a.toNat < s.length) : readN (partOf s a 1) = (s[a.toNat]).toNat := by
  simp only [partOf, show (1 : Int).toNat = 1 from rfl]
  rw [List.drop_eq_getElem_cons h, List.take_succ_cons, List.take_zero, readN, readN]
  omega
set_option maxRecDepth 4000 in
theorem p_rdecode (s : List UInt8) (loc : Int) (hs : s.length < 2 ^ 30) : PF Tryd.prog G 20 [.str s, .int .i64 loc] (decV s loc) := by
  refine PF.of_body mo Tryd.func20 rfl (by kernel_rfl) (by kernel_rfl) (by simp [Tryd.ntmps20]) ?_
  simp only [go_sem, Nat.reduceBEq, Nat.reduceAdd, Nat.reduceMul, Nat.reduceSub, Nat.reduceLeDiff, Int.reduceAdd, Int.reduceSub, Int.reduceMul, Int.reduceLE, Int.reduceLT, Int.reduceEq, Int.reduceNeg, Int.reduceToNat, Int.reduceTDiv, Int.reduceTMod, reduceIte, Nat.reduceEqDiff, Nat.reducePow, Int.reducePow, Tryd.results20]
  (first | with_reducible refine condW_not ?_ ?_ | refine condW_split ?_ ?_) <;> intro h1 <;> simp only [go_sem, Nat.reduceBEq, Nat.reduceAdd, Nat.reduceMul, Nat.reduceSub, Nat.reduceLeDiff, Int.reduceAdd, Int.reduceSub, Int.reduceMul, Int.reduceLE, Int.reduceLT, Int.reduceEq, Int.reduceNeg, Int.reduceToNat, Int.reduceTDiv, Int.reduceTMod, reduceIte, Nat.reduceEqDiff, Nat.reducePow, Int.reducePow, h1]
  · rw [decV, if_pos h1]
  · have hl := toNot h1
    (first | with_reducible refine condW_not ?_ ?_ | refine condW_split ?_ ?_) <;> intro h2 <;> simp only [go_sem, Nat.reduceBEq, Nat.reduceAdd, Nat.reduceMul, Nat.reduceSub, Nat.reduceLeDiff, Int.reduceAdd, Int.reduceSub, Int.reduceMul, Int.reduceLE, Int.reduceLT, Int.reduceEq, Int.reduceNeg, Int.reduceToNat, Int.reduceTDiv, Int.reduceTMod, reduceIte, Nat.reduceEqDiff, Nat.reducePow, Int.reducePow, h2]
    · have : s.length = 0 := by simpa using h2
      rw [decV, if_neg (by rw [h1]; decide), if_pos this]
    · have h0 : s.length ≠ 0 := by intro hc; have : s = [] := List.length_eq_zero_iff.1 hc; rw [this] at h2; simp at h2
      refine callK_pf (p_rtagIs s 262 loc hs) (by first | (simp only [go_sem, Nat.reduceBEq, Nat.reduceAdd, Nat.reduceMul, Nat.reduceSub, Nat.reduceLeDiff, Int.reduceAdd, Int.reduceSub, Int.reduceMul, Int.reduceLE, Int.reduceLT, Int.reduceEq, Int.reduceNeg, Int.reduceToNat, Int.reduceTDiv, Int.reduceTMod, reduceIte, Nat.reduceEqDiff, Nat.reducePow, Int.reducePow]; done) | (simp only [go_sem, Nat.reduceBEq, Nat.reduceAdd, Nat.reduceMul, Nat.reduceSub, Nat.reduceLeDiff, Int.reduceAdd, Int.reduceSub, Int.reduceMul, Int.reduceLE, Int.reduceLT, Int.reduceEq, Int.reduceNeg, Int.reduceToNat, Int.reduceTDiv, Int.reduceTMod, reduceIte, Nat.reduceEqDiff, Nat.reducePow, Int.reducePow]; rfl) | rfl) ?_; simp only [go_sem, Nat.reduceBEq, Nat.reduceAdd, Nat.reduceMul, Nat.reduceSub, Nat.reduceLeDiff, Int.reduceAdd, Int.reduceSub, Int.reduceMul, Int.reduceLE, Int.reduceLT, Int.reduceEq, Int.reduceNeg, Int.reduceToNat, Int.reduceTDiv, Int.reduceTMod, reduceIte, Nat.reduceEqDiff, Nat.reducePow, Int.reducePow]
      (first | with_reducible refine gO_not ?_ ?_ | with_reducible refine gT_not ?_ ?_ | refine gO_split ?_ ?_ | refine gT_split ?_ ?_) <;> intro h3 <;> simp only [go_sem, Nat.reduceBEq, Nat.reduceAdd, Nat.reduceMul, Nat.reduceSub, Nat.reduceLeDiff, Int.reduceAdd, Int.reduceSub, Int.reduceMul, Int.reduceLE, Int.reduceLT, Int.reduceEq, Int.reduceNeg, Int.reduceToNat, Int.reduceTDiv, Int.reduceTMod, reduceIte, Nat.reduceEqDiff, Nat.reducePow, Int.reducePow, h3]
      · (first | with_reducible refine condW_not ?_ ?_ | refine condW_split ?_ ?_) <;> intro h4 <;> simp only [go_sem, Nat.reduceBEq, Nat.reduceAdd, Nat.reduceMul, Nat.reduceSub, Nat.reduceLeDiff, Int.reduceAdd, Int.reduceSub, Int.reduceMul, Int.reduceLE, Int.reduceLT, Int.reduceEq, Int.reduceNeg, Int.reduceToNat, Int.reduceTDiv, Int.reduceTMod, reduceIte, Nat.reduceEqDiff, Nat.reducePow, Int.reducePow, h4]
        · have := toProp h4
          rw [decV, if_neg (by rw [h1]; decide), if_neg h0, if_pos (.inr (by omega))]
        · have h24 := toNot h4
          have hdv : decV s loc = (match decA (s.drop 24) with
              | none => .tup [.sl .any [], .int .i64 10]
              | some l => if validA l = true then .tup [.sl .any (l.map attrEl), .int .i64 0] else .tup [.sl .any [], .int .i64 10]) := by
            rw [decV, if_neg (by rw [h1]; decide), if_neg h0, if_neg (by rw [h3]; simp; omega)]
            rfl
          rw [hdv]
          refine wpc_loop (List Attr × Nat) (fun q => [(0, .d (.str s)), (6, .tsl 0 (q.1.map attrEl)), (7, .d (.int .i64 q.2))]) (fun q => [.tok 3 q.1.length])
            (fun q => 24 ≤ q.2 ∧ q.2 ≤ s.length ∧ q.1.length + s.length ≤ 2048 + q.2 ∧ (∀ a ∈ q.1, a.data.length ≤ 2048) ∧ decA (s.drop 24) = (decA (s.drop q.2)).map (q.1 ++ ·)) (fun q => s.length - q.2) ([], 24)
            (.step _ _ 6 .full [] 3 _ _ rfl (by decide) (.refl _ _)) (fun q hq => ⟨Nat.zero_le _, rfl, rfl⟩) ⟨by omega, by omega, by simp; omega, by simp, by simp⟩ rfl ?_ ?_
          · simp only [go_sem, Nat.reduceBEq, Nat.reduceAdd, Nat.reduceMul, Nat.reduceSub, Nat.reduceLeDiff, Int.reduceAdd, Int.reduceSub, Int.reduceMul, Int.reduceLE, Int.reduceLT, Int.reduceEq, Int.reduceNeg, Int.reduceToNat, Int.reduceTDiv, Int.reduceTMod, reduceIte, Nat.reduceEqDiff, Nat.reducePow, Int.reducePow]
            rfl
          rintro ⟨acc, p⟩ e ⟨i0, i0', i1, i2, i3⟩ ⟨g0, g6, g7, _⟩
          simp only at i0 i0' i1 i2 i3 g6 g7
          have c1 : IntKind.i64.wrap ((s.length : Int) - p) = (s.length : Int) - p := wrap_i64 (by omega) (by omega)
          simp only [go_sem, Nat.reduceBEq, Nat.reduceAdd, Nat.reduceMul, Nat.reduceSub, Nat.reduceLeDiff, Int.reduceAdd, Int.reduceSub, Int.reduceMul, Int.reduceLE, Int.reduceLT, Int.reduceEq, Int.reduceNeg, Int.reduceToNat, Int.reduceTDiv, Int.reduceTMod, reduceIte, Nat.reduceEqDiff, Nat.reducePow, Int.reducePow, g0, g6, g7, c1]
          (first | with_reducible refine condW_not ?_ ?_ | refine condW_split ?_ ?_) <;> intro h5 <;> simp only [go_sem, Nat.reduceBEq, Nat.reduceAdd, Nat.reduceMul, Nat.reduceSub, Nat.reduceLeDiff, Int.reduceAdd, Int.reduceSub, Int.reduceMul, Int.reduceLE, Int.reduceLT, Int.reduceEq, Int.reduceNeg, Int.reduceToNat, Int.reduceTDiv, Int.reduceTMod, reduceIte, Nat.reduceEqDiff, Nat.reducePow, Int.reducePow, g0, g6, g7, c1, h5]
          · have hlt := toProp h5
            have hr0 : (s.drop p).length ≠ 0 := by simp; omega
            have hrl : (s.drop p).length = s.length - p := by simp
            (first | with_reducible refine condW_not ?_ ?_ | refine condW_split ?_ ?_) <;> intro h6 <;> simp only [go_sem, Nat.reduceBEq, Nat.reduceAdd, Nat.reduceMul, Nat.reduceSub, Nat.reduceLeDiff, Int.reduceAdd, Int.reduceSub, Int.reduceMul, Int.reduceLE, Int.reduceLT, Int.reduceEq, Int.reduceNeg, Int.reduceToNat, Int.reduceTDiv, Int.reduceTMod, reduceIte, Nat.reduceEqDiff, Nat.reducePow, Int.reducePow, g0, g6, g7, c1, h6]
            · have hlt := toProp h6
              have : decA (s.drop p) = none := by rw [decA, dif_neg hr0, if_pos (by omega)]
              rw [i3, this]; rfl
            · have h16 := toNot h6
              have e8 : IntKind.i64.wrap ((p : Int) + 8) = (p : Int) + 8 := wrap_i64 (by omega) (by omega)
              have e12 : IntKind.i64.wrap ((p : Int) + 12) = (p : Int) + 12 := wrap_i64 (by omega) (by omega)
              have e4 : IntKind.i64.wrap ((p : Int) + 4) = (p : Int) + 4 := wrap_i64 (by omega) (by omega)
              have e16 : IntKind.i64.wrap ((p : Int) + 16) = (p : Int) + 16 := wrap_i64 (by omega) (by omega)
              simp only [go_sem, Nat.reduceBEq, Nat.reduceAdd, Nat.reduceMul, Nat.reduceSub, Nat.reduceLeDiff, Int.reduceAdd, Int.reduceSub, Int.reduceMul, Int.reduceLE, Int.reduceLT, Int.reduceEq, Int.reduceNeg, Int.reduceToNat, Int.reduceTDiv, Int.reduceTMod, reduceIte, Nat.reduceEqDiff, Nat.reducePow, Int.reducePow, g0, g6, g7, c1, e8, e12, e4, e16]
              refine callK_pf (p_number s ((p : Int) + 8) 4 (by omega) (by omega) (by omega) (by omega) (by omega)) (by first | (simp only [go_sem, Nat.reduceBEq, Nat.reduceAdd, Nat.reduceMul, Nat.reduceSub, Nat.reduceLeDiff, Int.reduceAdd, Int.reduceSub, Int.reduceMul, Int.reduceLE, Int.reduceLT, Int.reduceEq, Int.reduceNeg, Int.reduceToNat, Int.reduceTDiv, Int.reduceTMod, reduceIte, Nat.reduceEqDiff, Nat.reducePow, Int.reducePow]; done) | (simp only [go_sem, Nat.reduceBEq, Nat.reduceAdd, Nat.reduceMul, Nat.reduceSub, Nat.reduceLeDiff, Int.reduceAdd, Int.reduceSub, Int.reduceMul, Int.reduceLE, Int.reduceLT, Int.reduceEq, Int.reduceNeg, Int.reduceToNat, Int.reduceTDiv, Int.reduceTMod, reduceIte, Nat.reduceEqDiff, Nat.reducePow, Int.reducePow]; rfl) | rfl) ?_; simp only [go_sem, Nat.reduceBEq, Nat.reduceAdd, Nat.reduceMul, Nat.reduceSub, Nat.reduceLeDiff, Int.reduceAdd, Int.reduceSub, Int.reduceMul, Int.reduceLE, Int.reduceLT, Int.reduceEq, Int.reduceNeg, Int.reduceToNat, Int.reduceTDiv, Int.reduceTMod, reduceIte, Nat.reduceEqDiff, Nat.reducePow, Int.reducePow, g0, g6, g7, c1, e8, e12, e4, e16]
              refine callK_pf (p_number s ((p : Int) + 12) 4 (by omega) (by omega) (by omega) (by omega) (by omega)) (by first | (simp only [go_sem, Nat.reduceBEq, Nat.reduceAdd, Nat.reduceMul, Nat.reduceSub, Nat.reduceLeDiff, Int.reduceAdd, Int.reduceSub, Int.reduceMul, Int.reduceLE, Int.reduceLT, Int.reduceEq, Int.reduceNeg, Int.reduceToNat, Int.reduceTDiv, Int.reduceTMod, reduceIte, Nat.reduceEqDiff, Nat.reducePow, Int.reducePow]; done) | (simp only [go_sem, Nat.reduceBEq, Nat.reduceAdd, Nat.reduceMul, Nat.reduceSub, Nat.reduceLeDiff, Int.reduceAdd, Int.reduceSub, Int.reduceMul, Int.reduceLE, Int.reduceLT, Int.reduceEq, Int.reduceNeg, Int.reduceToNat, Int.reduceTDiv, Int.reduceTMod, reduceIte, Nat.reduceEqDiff, Nat.reducePow, Int.reducePow]; rfl) | rfl) ?_; simp only [go_sem, Nat.reduceBEq, Nat.reduceAdd, Nat.reduceMul, Nat.reduceSub, Nat.reduceLeDiff, Int.reduceAdd, Int.reduceSub, Int.reduceMul, Int.reduceLE, Int.reduceLT, Int.reduceEq, Int.reduceNeg, Int.reduceToNat, Int.reduceTDiv, Int.reduceTMod, reduceIte, Nat.reduceEqDiff, Nat.reducePow, Int.reducePow, g0, g6, g7, c1, e8, e12, e4, e16]
              have d8 : partOf (s.drop p) 8 4 = partOf s ((p : Int) + 8) 4 := partOf_drop s p 8 4 (by omega)
              have d12 : partOf (s.drop p) 12 4 = partOf s ((p : Int) + 12) 4 := partOf_drop s p 12 4 (by omega)
              have h1n := readN_lt (partOf s ((p : Int) + 8) 4)
              have h2n : (256 : Nat) ^ (partOf s ((p : Int) + 8) 4).length ≤ 256 ^ 4 := Nat.pow_le_pow_right (by decide) (by simp [partOf]; omega)
              have h1m := readN_lt (partOf s ((p : Int) + 12) 4)
              have h2m : (256 : Nat) ^ (partOf s ((p : Int) + 12) 4).length ≤ 256 ^ 4 := Nat.pow_le_pow_right (by decide) (by simp [partOf]; omega)
              have bad : decBad (s.drop p) = true → decA (s.drop 24) = none := fun hb => by
                rw [i3, decA, dif_neg hr0, if_neg (by omega), dif_pos hb]; rfl
              have hdb : decBad (s.drop p) = (decide ((readN (partOf s ((p : Int) + 8) 4) : Int) < 16) || (!decide ((readN (partOf s ((p : Int) + 8) 4) : Int).tmod 4 = 0) || (decide ((s.length : Int) - p < (readN (partOf s ((p : Int) + 8) 4) : Int)) || decide ((readN (partOf s ((p : Int) + 8) 4) : Int) - 16 < (readN (partOf s ((p : Int) + 12) 4) : Int))))) := by
                have hcast : ((s.length - p : Nat) : Int) = (s.length : Int) - p := by omega
                unfold decBad
                rw [d8, d12, hrl, hcast]
              have ew : IntKind.i64.wrap ((readN (partOf s ((p : Int) + 8) 4) : Int) - 16) = readN (partOf s ((p : Int) + 8) 4) - 16 := wrap_i64 (by omega) (by omega)
              (first | with_reducible refine gO_not ?_ ?_ | with_reducible refine gT_not ?_ ?_ | refine gO_split ?_ ?_ | refine gT_split ?_ ?_) <;> intro a1 <;> simp only [go_sem, Nat.reduceBEq, Nat.reduceAdd, Nat.reduceMul, Nat.reduceSub, Nat.reduceLeDiff, Int.reduceAdd, Int.reduceSub, Int.reduceMul, Int.reduceLE, Int.reduceLT, Int.reduceEq, Int.reduceNeg, Int.reduceToNat, Int.reduceTDiv, Int.reduceTMod, reduceIte, Nat.reduceEqDiff, Nat.reducePow, Int.reducePow, g0, g6, g7, c1, e8, e12, e4, e16, ew, a1]
              · (first | with_reducible refine gO_not ?_ ?_ | with_reducible refine gT_not ?_ ?_ | refine gO_split ?_ ?_ | refine gT_split ?_ ?_) <;> intro a2 <;> simp only [go_sem, Nat.reduceBEq, Nat.reduceAdd, Nat.reduceMul, Nat.reduceSub, Nat.reduceLeDiff, Int.reduceAdd, Int.reduceSub, Int.reduceMul, Int.reduceLE, Int.reduceLT, Int.reduceEq, Int.reduceNeg, Int.reduceToNat, Int.reduceTDiv, Int.reduceTMod, reduceIte, Nat.reduceEqDiff, Nat.reducePow, Int.reducePow, g0, g6, g7, c1, e8, e12, e4, e16, ew, a2]
                · (first | with_reducible refine gO_not ?_ ?_ | with_reducible refine gT_not ?_ ?_ | refine gO_split ?_ ?_ | refine gT_split ?_ ?_) <;> intro a3 <;> simp only [go_sem, Nat.reduceBEq, Nat.reduceAdd, Nat.reduceMul, Nat.reduceSub, Nat.reduceLeDiff, Int.reduceAdd, Int.reduceSub, Int.reduceMul, Int.reduceLE, Int.reduceLT, Int.reduceEq, Int.reduceNeg, Int.reduceToNat, Int.reduceTDiv, Int.reduceTMod, reduceIte, Nat.reduceEqDiff, Nat.reducePow, Int.reducePow, g0, g6, g7, c1, e8, e12, e4, e16, ew, a3]
                  · (first | with_reducible refine condW_not ?_ ?_ | refine condW_split ?_ ?_) <;> intro a4 <;> simp only [go_sem, Nat.reduceBEq, Nat.reduceAdd, Nat.reduceMul, Nat.reduceSub, Nat.reduceLeDiff, Int.reduceAdd, Int.reduceSub, Int.reduceMul, Int.reduceLE, Int.reduceLT, Int.reduceEq, Int.reduceNeg, Int.reduceToNat, Int.reduceTDiv, Int.reduceTMod, reduceIte, Nat.reduceEqDiff, Nat.reducePow, Int.reducePow, g0, g6, g7, c1, e8, e12, e4, e16, ew, a4]
                    · rw [bad (by rw [hdb]; simp only [a4, go_sem, Nat.reduceBEq, Nat.reduceAdd, Nat.reduceMul, Nat.reduceSub, Nat.reduceLeDiff, Int.reduceAdd, Int.reduceSub, Int.reduceMul, Int.reduceLE, Int.reduceLT, Int.reduceEq, Int.reduceNeg, Int.reduceToNat, Int.reduceTDiv, Int.reduceTMod, reduceIte, Nat.reduceEqDiff, Nat.reducePow, Int.reducePow, g0, g6, g7, c1, e8, e12, e4, e16, ew])]
                    · have hb : decBad (s.drop p) = false := by rw [hdb]; simp only [a1, a2, a3, a4, go_sem, Nat.reduceBEq, Nat.reduceAdd, Nat.reduceMul, Nat.reduceSub, Nat.reduceLeDiff, Int.reduceAdd, Int.reduceSub, Int.reduceMul, Int.reduceLE, Int.reduceLT, Int.reduceEq, Int.reduceNeg, Int.reduceToNat, Int.reduceTDiv, Int.reduceTMod, reduceIte, Nat.reduceEqDiff, Nat.reducePow, Int.reducePow, g0, g6, g7, c1, e8, e12, e4, e16, ew]
                      have hd : decA (s.drop p) = (decA ((s.drop p).drop (readN (partOf (s.drop p) 8 4)))).map (decAt (s.drop p) :: ·) := by
                        rw [decA, dif_neg hr0, if_neg (by omega), dif_neg (by rw [hb]; decide)]
                      have n1 := toNot a1
                      have n3 := toNot a3
                      have n4 := toNot a4
                      refine callKT_pf (p_number s p 4 (by omega) (by omega) (by omega) (by omega) (by omega)) (by first | (simp only [go_sem, Nat.reduceBEq, Nat.reduceAdd, Nat.reduceMul, Nat.reduceSub, Nat.reduceLeDiff, Int.reduceAdd, Int.reduceSub, Int.reduceMul, Int.reduceLE, Int.reduceLT, Int.reduceEq, Int.reduceNeg, Int.reduceToNat, Int.reduceTDiv, Int.reduceTMod, reduceIte, Nat.reduceEqDiff, Nat.reducePow, Int.reducePow]; done) | (simp only [go_sem, Nat.reduceBEq, Nat.reduceAdd, Nat.reduceMul, Nat.reduceSub, Nat.reduceLeDiff, Int.reduceAdd, Int.reduceSub, Int.reduceMul, Int.reduceLE, Int.reduceLT, Int.reduceEq, Int.reduceNeg, Int.reduceToNat, Int.reduceTDiv, Int.reduceTMod, reduceIte, Nat.reduceEqDiff, Nat.reducePow, Int.reducePow]; rfl) | rfl) ?_; simp only [go_sem, Nat.reduceBEq, Nat.reduceAdd, Nat.reduceMul, Nat.reduceSub, Nat.reduceLeDiff, Int.reduceAdd, Int.reduceSub, Int.reduceMul, Int.reduceLE, Int.reduceLT, Int.reduceEq, Int.reduceNeg, Int.reduceToNat, Int.reduceTDiv, Int.reduceTMod, reduceIte, Nat.reduceEqDiff, Nat.reducePow, Int.reducePow, g0, g6, g7, c1, e8, e12, e4, e16, ew]
                      have eM : IntKind.i64.wrap ((p : Int) + 16 + (readN (partOf s ((p : Int) + 12) 4) : Int)) = (p : Int) + 16 + (readN (partOf s ((p : Int) + 12) 4) : Int) := wrap_i64 (by omega) (by omega)
                      have eN : IntKind.i64.wrap ((p : Int) + (readN (partOf s ((p : Int) + 8) 4) : Int)) = ((p + readN (partOf s ((p : Int) + 8) 4) : Nat) : Int) := by rw [wrap_i64 (by omega) (by omega)]; omega
                      rw [eM, eN]
                      rw [d8, List.drop_drop] at hd
                      refine ⟨⟨by omega, by omega⟩, ⟨by omega, by omega, by omega⟩, by omega, by kernel_rfl, (acc ++ [decAt (s.drop p)], p + readN (partOf s ((p : Int) + 8) 4)), ⟨by omega, by omega, by simp; omega, ?_, ?_⟩, by omega, ⟨[], by simp⟩, ?_, rfl⟩
                      · intro a ha
                        simp only [List.mem_append, List.mem_singleton] at ha
                        rcases ha with ha | rfl
                        · exact i2 a ha
                        · simp only [decAt, partOf, List.length_take, List.length_drop]; omega
                      · rw [i3, hd]
                        cases decA (s.drop (p + readN (partOf s ((p : Int) + 8) 4))) <;> simp
                      · have q0 : partOf (s.drop p) 0 4 = partOf s p 4 := by rw [partOf_drop s p 0 4 (by omega)]; congr 1
                        have q4 : partOf (s.drop p) 4 1 = partOf s ((p : Int) + 4) 1 := partOf_drop s p 4 1 (by omega)
                        have q16 : partOf (s.drop p) 16 (readN (partOf s ((p : Int) + 12) 4)) = (s.take ((p : Int) + 16 + (readN (partOf s ((p : Int) + 12) 4) : Int)).toNat).drop ((p : Int) + 16).toNat := by
                          rw [partOf_drop s p 16 _ (by omega), partOf, List.drop_take]
                          congr 1
                          omega
                        simp only [List.map_append, List.map_cons, List.map_nil, attrEl, decAt, q0, q4, d12, q16, readN_one s ((p : Int) + 4) (by omega)]
                  · rw [bad (by rw [hdb]; simp only [a3, go_sem, Nat.reduceBEq, Nat.reduceAdd, Nat.reduceMul, Nat.reduceSub, Nat.reduceLeDiff, Int.reduceAdd, Int.reduceSub, Int.reduceMul, Int.reduceLE, Int.reduceLT, Int.reduceEq, Int.reduceNeg, Int.reduceToNat, Int.reduceTDiv, Int.reduceTMod, reduceIte, Nat.reduceEqDiff, Nat.reducePow, Int.reducePow, g0, g6, g7, c1, e8, e12, e4, e16, ew])]
                · rw [bad (by rw [hdb]; simp only [a2, go_sem, Nat.reduceBEq, Nat.reduceAdd, Nat.reduceMul, Nat.reduceSub, Nat.reduceLeDiff, Int.reduceAdd, Int.reduceSub, Int.reduceMul, Int.reduceLE, Int.reduceLT, Int.reduceEq, Int.reduceNeg, Int.reduceToNat, Int.reduceTDiv, Int.reduceTMod, reduceIte, Nat.reduceEqDiff, Nat.reducePow, Int.reducePow, g0, g6, g7, c1, e8, e12, e4, e16, ew])]
              · rw [bad (by rw [hdb]; simp only [a1, go_sem, Nat.reduceBEq, Nat.reduceAdd, Nat.reduceMul, Nat.reduceSub, Nat.reduceLeDiff, Int.reduceAdd, Int.reduceSub, Int.reduceMul, Int.reduceLE, Int.reduceLT, Int.reduceEq, Int.reduceNeg, Int.reduceToNat, Int.reduceTDiv, Int.reduceTMod, reduceIte, Nat.reduceEqDiff, Nat.reducePow, Int.reducePow, g0, g6, g7, c1, e8, e12, e4, e16, ew])]
          · have hp : p = s.length := by have := toNot h5; omega
            subst hp
            have hd : decA (s.drop s.length) = some [] := by rw [decA]; simp
            rw [hd] at i3
            refine callK_pf (p_rvalid acc (by omega) (fun a ha => by have := i2 a ha; omega)) (by first | (simp only [go_sem, Nat.reduceBEq, Nat.reduceAdd, Nat.reduceMul, Nat.reduceSub, Nat.reduceLeDiff, Int.reduceAdd, Int.reduceSub, Int.reduceMul, Int.reduceLE, Int.reduceLT, Int.reduceEq, Int.reduceNeg, Int.reduceToNat, Int.reduceTDiv, Int.reduceTMod, reduceIte, Nat.reduceEqDiff, Nat.reducePow, Int.reducePow]; done) | (simp only [go_sem, Nat.reduceBEq, Nat.reduceAdd, Nat.reduceMul, Nat.reduceSub, Nat.reduceLeDiff, Int.reduceAdd, Int.reduceSub, Int.reduceMul, Int.reduceLE, Int.reduceLT, Int.reduceEq, Int.reduceNeg, Int.reduceToNat, Int.reduceTDiv, Int.reduceTMod, reduceIte, Nat.reduceEqDiff, Nat.reducePow, Int.reducePow]; rfl) | rfl) ?_; simp only [go_sem, Nat.reduceBEq, Nat.reduceAdd, Nat.reduceMul, Nat.reduceSub, Nat.reduceLeDiff, Int.reduceAdd, Int.reduceSub, Int.reduceMul, Int.reduceLE, Int.reduceLT, Int.reduceEq, Int.reduceNeg, Int.reduceToNat, Int.reduceTDiv, Int.reduceTMod, reduceIte, Nat.reduceEqDiff, Nat.reducePow, Int.reducePow, g0, g6, g7]
            rw [i3]
            simp only [Option.map_some, List.append_nil]
            (first | with_reducible refine condW_not ?_ ?_ | refine condW_split ?_ ?_) <;> intro h7 <;> simp only [go_sem, Nat.reduceBEq, Nat.reduceAdd, Nat.reduceMul, Nat.reduceSub, Nat.reduceLeDiff, Int.reduceAdd, Int.reduceSub, Int.reduceMul, Int.reduceLE, Int.reduceLT, Int.reduceEq, Int.reduceNeg, Int.reduceToNat, Int.reduceTDiv, Int.reduceTMod, reduceIte, Nat.reduceEqDiff, Nat.reducePow, Int.reducePow, g0, g6, g7, h7]
      · rw [decV, if_neg (by rw [h1]; decide), if_neg h0, if_pos (.inl h3)]
end Go.Proofs.YtjmldlknegbimaaDoor.Sx
