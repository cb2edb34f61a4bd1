/- The reference's Characters against the same plain function. -/
import Derived.Test.YtjmldlknegbimaaGreatDoorB12
set_option linter.unusedVariables false
set_option linter.unusedSimpArgs false
namespace Go.Proofs.YtjmldlknegbimaaGreatDoor.Sx
open Go Go.RowKit
variable {G : Gl}
theorem b8_eq (k : Int) (h0 : 0 ≤ k) (h1 : k < 256) (b : UInt8) : UInt8.ofNat (IntKind.u8.wrap k).toNat = b ↔ k = b.toNat := by
  have hb := b.toNat_lt
  have hw : IntKind.u8.wrap k = k := by rw [IntKind.wrap_u8]; omega
  rw [hw]
  constructor
  · intro h
    have := congrArg UInt8.toNat h
    rw [UInt8.toNat_ofNat'] at this
    omega
  · intro h
    apply UInt8.toNat.inj
    rw [UInt8.toNat_ofNat']
    omega
theorem encC_1 (b0 : UInt8) : encC b0.toNat = [b0] ↔ b0.toNat < 128 := by
  have hb := b0.toNat_lt
  unfold encC
  simp only []
  split
  · rename_i h
    rw [List.cons.injEq, b8_eq _ (by omega) (by omega)]
    constructor
    · intro _; omega
    · intro _; exact ⟨rfl, rfl⟩
  · rename_i h
    constructor
    · intro h2
      split at h2 <;> simp at h2
    · intro h2; omega
theorem encC_2 (n : Int) (h0 : 32 ≤ n) (h1 : n ≤ 65533) (b0 b1 : UInt8) : encC n = [b0, b1] ↔ 128 ≤ n ∧ n < 2048 ∧ 192 + n / 64 = b0.toNat ∧ 128 + n % 64 = b1.toNat := by
  unfold encC
  simp only []
  rw [Int.tdiv_eq_ediv_of_nonneg (by omega), Int.tmod_eq_emod_of_nonneg (by omega)]
  split
  · rename_i h
    constructor
    · intro h2; simp at h2
    · intro h2; omega
  · split
    · rename_i h h'
      rw [List.cons.injEq, List.cons.injEq, b8_eq _ (by omega) (by omega), b8_eq _ (by omega) (by omega)]
      constructor
      · rintro ⟨a, b, _⟩; exact ⟨by omega, h', a, b⟩
      · rintro ⟨_, _, a, b⟩; exact ⟨a, b, rfl⟩
    · rename_i h h'
      constructor
      · intro h2; simp at h2
      · intro h2; omega
theorem encC_3 (n : Int) (h0 : 32 ≤ n) (h1 : n ≤ 65533) (b0 b1 b2 : UInt8) : encC n = [b0, b1, b2] ↔ 2048 ≤ n ∧ 224 + n / 4096 = b0.toNat ∧ 128 + n / 64 % 64 = b1.toNat ∧ 128 + n % 64 = b2.toNat := by
  unfold encC
  simp only []
  rw [Int.tdiv_eq_ediv_of_nonneg (by omega), Int.tmod_eq_emod_of_nonneg (by omega), Int.tdiv_eq_ediv_of_nonneg (by omega), Int.tmod_eq_emod_of_nonneg (by omega)]
  split
  · rename_i h
    constructor
    · intro h2; simp at h2
    · intro h2; omega
  · split
    · rename_i h h'
      constructor
      · intro h2; simp at h2
      · intro h2; omega
    · rename_i h h'
      rw [List.cons.injEq, List.cons.injEq, List.cons.injEq, b8_eq _ (by omega) (by omega), b8_eq _ (by omega) (by omega), b8_eq _ (by omega) (by omega)]
      constructor
      · rintro ⟨a, b, c, _⟩; exact ⟨by omega, a, b, c⟩
      · rintro ⟨_, a, b, c⟩; exact ⟨a, b, c, rfl⟩
def byteI (s : List UInt8) (i : Nat) : Int := (s.getD i 0).toNat
def numK (s : List UInt8) (k : Nat) : Int :=
  if k = 2 then (byteI s 0 - 192) * 64 + byteI s 1 - 128 else if k = 3 then (byteI s 0 - 224) * 4096 + (byteI s 1 - 128) * 64 + byteI s 2 - 128 else byteI s 0
def testK (s : List UInt8) (k : Nat) : Bool := charB (numK s k) && (encC (numK s k) == s.take k)
theorem charB_iffI (n : Int) : charB n = true ↔ 32 ≤ n ∧ n ≤ 65533 ∧ (n < 55296 ∨ 57343 < n) := by
  simp only [charB, Bool.and_eq_true, Bool.or_eq_true, decide_eq_true_eq]
theorem testK_1 (b0 : UInt8) (r : List UInt8) : testK (b0 :: r) 1 = true ↔ 32 ≤ b0.toNat ∧ b0.toNat < 128 := by
  unfold testK
  rw [Bool.and_eq_true, beq_iff_eq, show (b0 :: r).take 1 = [b0] from rfl, show numK (b0 :: r) 1 = b0.toNat from rfl, encC_1, charB_iffI]
  omega
theorem testK_2 (b0 b1 : UInt8) (r : List UInt8) : testK (b0 :: b1 :: r) 2 = true ↔ b0.toNat / 32 = 6 ∧ b1.toNat / 64 = 2 ∧ 128 ≤ b0.toNat % 32 * 64 + b1.toNat % 64 := by
  have q0 := b0.toNat_lt
  have q1 := b1.toNat_lt
  unfold testK
  rw [Bool.and_eq_true, beq_iff_eq, show (b0 :: b1 :: r).take 2 = [b0, b1] from rfl, show numK (b0 :: b1 :: r) 2 = ((b0.toNat : Int) - 192) * 64 + b1.toNat - 128 from rfl]
  by_cases hc : charB (((b0.toNat : Int) - 192) * 64 + b1.toNat - 128) = true
  · have hc' := (charB_iffI _).1 hc
    rw [encC_2 _ (by omega) (by omega)]
    simp only [hc, true_and]
    omega
  · refine iff_of_false (fun h => hc h.1) (fun h => ?_)
    rw [charB_iffI] at hc
    omega
theorem testK_3 (b0 b1 b2 : UInt8) (r : List UInt8) : testK (b0 :: b1 :: b2 :: r) 3 = true ↔ b0.toNat / 16 = 14 ∧ b1.toNat / 64 = 2 ∧ b2.toNat / 64 = 2 ∧ 2048 ≤ b0.toNat % 16 * 4096 + b1.toNat % 64 * 64 + b2.toNat % 64 ∧
    (b0.toNat % 16 * 4096 + b1.toNat % 64 * 64 + b2.toNat % 64 < 55296 ∨ (57344 ≤ b0.toNat % 16 * 4096 + b1.toNat % 64 * 64 + b2.toNat % 64 ∧ b0.toNat % 16 * 4096 + b1.toNat % 64 * 64 + b2.toNat % 64 ≤ 65533)) := by
  have q0 := b0.toNat_lt
  have q1 := b1.toNat_lt
  have q2 := b2.toNat_lt
  unfold testK
  rw [Bool.and_eq_true, beq_iff_eq, show (b0 :: b1 :: b2 :: r).take 3 = [b0, b1, b2] from rfl, show numK (b0 :: b1 :: b2 :: r) 3 = ((b0.toNat : Int) - 224) * 4096 + ((b1.toNat : Int) - 128) * 64 + b2.toNat - 128 from rfl]
  by_cases hc : charB (((b0.toNat : Int) - 224) * 4096 + ((b1.toNat : Int) - 128) * 64 + b2.toNat - 128) = true
  · have hc' := (charB_iffI _).1 hc
    rw [encC_3 _ (by omega) (by omega)]
    simp only [hc, true_and]
    omega
  · refine iff_of_false (fun h => hc h.1) (fun h => ?_)
    rw [charB_iffI] at hc
    omega
/-- The tests, one after the other, are the character at the front. -/
theorem first_chr (s : List UInt8) : (match chr1 s with
    | some p => ∃ k, 1 ≤ k ∧ k ≤ 3 ∧ k ≤ s.length ∧ (∀ j, 1 ≤ j → j < k → testK s j = false) ∧ testK s k = true ∧ p.1 = (numK s k).toNat ∧ (numK s k).toNat = numK s k ∧ p.2 = k
    | none => ∀ j, 1 ≤ j → j ≤ 3 → j ≤ s.length → testK s j = false) := by
  rcases s with _ | ⟨b0, r⟩
  · simp only [chr1]
    intro j h1 _ h3; simp at h3; omega
  have q0 := b0.toNat_lt
  have t1 := testK_1 b0 r
  have f1 : ∀ {b : Bool}, ¬ (b = true) → b = false := fun h => by simpa using h
  by_cases h1 : 32 ≤ b0.toNat ∧ b0.toNat < 128
  · have hc : chr1 (b0 :: r) = some (b0.toNat, 1) := by simp only [chr1]; rw [if_pos h1.2, if_pos h1.1]
    rw [hc]
    exact ⟨1, by omega, by omega, by simp, fun j _ _ => by omega, t1.2 h1, rfl, rfl, rfl⟩
  have n1 := f1 (fun h => h1 (t1.1 h))
  rcases r with _ | ⟨b1, r⟩
  · have hc : chr1 [b0] = none := by
      simp only [chr1]
      split
      · rw [if_neg (by omega)]
      · rfl
    rw [hc]
    intro j a _ c
    have : j = 1 := by simp at c; omega
    subst this; exact n1
  have q1 := b1.toNat_lt
  have t2 := testK_2 b0 b1 r
  by_cases h2 : b0.toNat / 32 = 6 ∧ b1.toNat / 64 = 2 ∧ 128 ≤ b0.toNat % 32 * 64 + b1.toNat % 64
  · have hc : chr1 (b0 :: b1 :: r) = some (b0.toNat % 32 * 64 + b1.toNat % 64, 2) := by simp only [chr1]; rw [if_neg (by omega), if_pos h2.1, if_pos h2.2]
    rw [hc]
    have e : numK (b0 :: b1 :: r) 2 = ((b0.toNat : Int) - 192) * 64 + b1.toNat - 128 := rfl
    refine ⟨2, by omega, by omega, by simp, fun j _ _ => ?_, t2.2 h2, ?_, ?_, rfl⟩
    · have : j = 1 := by omega
      subst this; exact n1
    · rw [e]; simp only []; omega
    · rw [e]; omega
  have n2 := f1 (fun h => h2 (t2.1 h))
  rcases r with _ | ⟨b2, r⟩
  · have hc : chr1 [b0, b1] = none := by
      simp only [chr1]
      split
      · rw [if_neg (by omega)]
      · split
        · rw [if_neg (by omega)]
        · rfl
    rw [hc]
    intro j a _ c
    have : j = 1 ∨ j = 2 := by simp at c; omega
    rcases this with rfl | rfl
    · exact n1
    · exact n2
  have q2 := b2.toNat_lt
  have t3 := testK_3 b0 b1 b2 r
  by_cases h3 : b0.toNat / 16 = 14 ∧ b1.toNat / 64 = 2 ∧ b2.toNat / 64 = 2 ∧ 2048 ≤ b0.toNat % 16 * 4096 + b1.toNat % 64 * 64 + b2.toNat % 64 ∧
    (b0.toNat % 16 * 4096 + b1.toNat % 64 * 64 + b2.toNat % 64 < 55296 ∨ (57344 ≤ b0.toNat % 16 * 4096 + b1.toNat % 64 * 64 + b2.toNat % 64 ∧ b0.toNat % 16 * 4096 + b1.toNat % 64 * 64 + b2.toNat % 64 ≤ 65533))
  · have hc : chr1 (b0 :: b1 :: b2 :: r) = some (b0.toNat % 16 * 4096 + b1.toNat % 64 * 64 + b2.toNat % 64, 3) := by simp only [chr1]; rw [if_neg (by omega), if_neg (by omega), if_pos h3]
    rw [hc]
    have e : numK (b0 :: b1 :: b2 :: r) 3 = ((b0.toNat : Int) - 224) * 4096 + ((b1.toNat : Int) - 128) * 64 + b2.toNat - 128 := rfl
    refine ⟨3, by omega, by omega, by simp, fun j _ _ => ?_, t3.2 h3, ?_, ?_, rfl⟩
    · have : j = 1 ∨ j = 2 := by omega
      rcases this with rfl | rfl
      · exact n1
      · exact n2
    · rw [e]; simp only []; omega
    · rw [e]; omega
  have n3 := f1 (fun h => h3 (t3.1 h))
  have hc : chr1 (b0 :: b1 :: b2 :: r) = none := by
    simp only [chr1]
    split
    · rw [if_neg (by omega)]
    · split
      · rw [if_neg (by omega)]
      · first | rfl | rw [if_neg h3]
  rw [hc]
  intro j a b _
  have : j = 1 ∨ j = 2 ∨ j = 3 := by omega
  rcases this with rfl | rfl | rfl
  · exact n1
  · exact n2
  · exact n3
def firstV (s : List UInt8) : DV := match chr1 s with | some p => .tup [.int .i64 p.1, .int .i64 p.2] | none => .tup [.int .i64 0, .int .i64 0]
theorem first_of_test (s : List UInt8) (k : Nat) (h1 : 1 ≤ k) (h3 : k ≤ 3) (hl : k ≤ s.length) (hb : ∀ j, 1 ≤ j → j < k → testK s j = false) (ht : testK s k = true) : firstV s = .tup [.int .i64 (numK s k), .int .i64 k] := by
  have h := first_chr s
  unfold firstV
  cases hc : chr1 s with
  | none =>
    rw [hc] at h
    rw [h k h1 h3 hl] at ht
    contradiction
  | some p =>
    rw [hc] at h
    obtain ⟨k', a1, a2, a3, a4, a5, a6, a7, a8⟩ := h
    have : k' = k := by
      rcases Nat.lt_trichotomy k' k with h | h | h
      · rw [hb k' a1 h] at a5; contradiction
      · exact h
      · rw [a4 k h1 h] at ht; contradiction
    subst this
    simp only []
    rw [a6, a7, a8]
theorem first_none (s : List UInt8) (h : ∀ j, 1 ≤ j → j ≤ 3 → j ≤ s.length → testK s j = false) : firstV s = .tup [.int .i64 0, .int .i64 0] := by
  have h' := first_chr s
  unfold firstV
  cases hc : chr1 s with
  | none => rfl
  | some p =>
    rw [hc] at h'
    obtain ⟨k', a1, a2, a3, a4, a5, _⟩ := h'
    rw [h k' a1 a2 a3] at a5
    contradiction
theorem byteI_le (s : List UInt8) (j : Nat) : 0 ≤ byteI s j ∧ byteI s j ≤ 255 := by
  have := (s.getD j 0).toNat_lt
  unfold byteI; omega
set_option maxRecDepth 4000 in
theorem p_rfirst (s : List UInt8) (hs : s.length < 2 ^ 40) : PF Tryz.prog G 83 [.str s] (firstV s) := by
  refine PF.of_body mo Tryz.func83 rfl (by kernel_rfl) (by kernel_rfl) (by simp [Tryz.ntmps83]) ?_; simp only [go_sem, Nat.reduceBEq, Nat.reduceAdd, Nat.reduceMul, Nat.reduceSub, Nat.reduceLeDiff, Int.reduceAdd, Int.reduceSub, Int.reduceMul, Int.reduceLE, Int.reduceLT, Int.reduceEq, Int.reduceNeg, Int.reduceToNat, Int.reduceTDiv, Int.reduceTMod, reduceIte, Nat.reduceEqDiff, Nat.reducePow, Int.reducePow, Tryz.results83]
  refine wpc_loop Nat (fun k => [(0, .d (.str s)), (4, .d (.int .i64 k))]) (fun k => []) (fun k => 1 ≤ k ∧ k ≤ 4 ∧ ∀ j, 1 ≤ j → j < k → j ≤ s.length → testK s j = false) (fun k => 4 - k) 1
    (.refl _ _) (fun k hk => ⟨Nat.zero_le _, rfl, rfl⟩) ⟨by omega, by omega, fun j _ _ => by omega⟩ rfl ?_ ?_
  · simp only [go_sem, Nat.reduceBEq, Nat.reduceAdd, Nat.reduceMul, Nat.reduceSub, Nat.reduceLeDiff, Int.reduceAdd, Int.reduceSub, Int.reduceMul, Int.reduceLE, Int.reduceLT, Int.reduceEq, Int.reduceNeg, Int.reduceToNat, Int.reduceTDiv, Int.reduceTMod, reduceIte, Nat.reduceEqDiff, Nat.reducePow, Int.reducePow]
    rfl
  rintro k e ⟨i1, i2, i3⟩ ⟨g0, g4, _⟩
  simp only [go_sem, Nat.reduceBEq, Nat.reduceAdd, Nat.reduceMul, Nat.reduceSub, Nat.reduceLeDiff, Int.reduceAdd, Int.reduceSub, Int.reduceMul, Int.reduceLE, Int.reduceLT, Int.reduceEq, Int.reduceNeg, Int.reduceToNat, Int.reduceTDiv, Int.reduceTMod, reduceIte, Nat.reduceEqDiff, Nat.reducePow, Int.reducePow, g0, g4]
  (first | with_reducible refine gO_not ?_ ?_ | with_reducible refine gT_not ?_ ?_ | refine gO_split ?_ ?_ | refine gT_split ?_ ?_) <;> intro c1 <;> simp only [go_sem, Nat.reduceBEq, Nat.reduceAdd, Nat.reduceMul, Nat.reduceSub, Nat.reduceLeDiff, Int.reduceAdd, Int.reduceSub, Int.reduceMul, Int.reduceLE, Int.reduceLT, Int.reduceEq, Int.reduceNeg, Int.reduceToNat, Int.reduceTDiv, Int.reduceTMod, reduceIte, Nat.reduceEqDiff, Nat.reducePow, Int.reducePow, g0, g4, c1]
  · (first | with_reducible refine condW_not ?_ ?_ | refine condW_split ?_ ?_) <;> intro c2 <;> simp only [go_sem, Nat.reduceBEq, Nat.reduceAdd, Nat.reduceMul, Nat.reduceSub, Nat.reduceLeDiff, Int.reduceAdd, Int.reduceSub, Int.reduceMul, Int.reduceLE, Int.reduceLT, Int.reduceEq, Int.reduceNeg, Int.reduceToNat, Int.reduceTDiv, Int.reduceTMod, reduceIte, Nat.reduceEqDiff, Nat.reducePow, Int.reducePow, g0, g4, c2]
    · have k3 := toProp c1
      have kl := toProp c2
      have hb : ∀ (j : Nat) (h : j < s.length), ((s[j]'h).toNat : Int) = byteI s j := fun j h => by simp [byteI, List.getD_eq_getElem?_getD, h]
      have key : testK s k = true → firstV s = .tup [.int .i64 (numK s k), .int .i64 k] := fun ht => first_of_test s k i1 (by omega) (by omega) (fun j a b => i3 j a b (by omega)) ht
      have nxt : testK s k = false → 1 ≤ k + 1 ∧ k + 1 ≤ 4 ∧ ∀ j, 1 ≤ j → j < k + 1 → j ≤ s.length → testK s j = false := fun ht => ⟨by omega, by omega, fun j a b c => by
        rcases Nat.lt_or_ge j k with h | h
        · exact i3 j a h c
        · have : j = k := by omega
          subst this; exact ht⟩
      have hk : k = 1 ∨ k = 2 ∨ k = 3 := by omega
      have q0 := byteI_le s 0
      have q1 := byteI_le s 1
      have q2 := byteI_le s 2
      have v0 : IntKind.i64.wrap (byteI s 0) = byteI s 0 := wrap_i64 (by omega) (by omega)
      have v1 : IntKind.i64.wrap (byteI s 1) = byteI s 1 := wrap_i64 (by omega) (by omega)
      have v2 : IntKind.i64.wrap (byteI s 2) = byteI s 2 := wrap_i64 (by omega) (by omega)
      have fin : ∀ (k : Nat) (c : Bool), charB (numK s k) = c → testK s k = (c && (encC (numK s k) == s.take k)) := fun k c h => by rw [testK, h]
      rcases hk with rfl | rfl | rfl
      · refine ⟨by omega, ?_⟩
        have hn : numK s 1 = byteI s 0 := rfl
        simp only [go_sem, Nat.reduceBEq, Nat.reduceAdd, Nat.reduceMul, Nat.reduceSub, Nat.reduceLeDiff, Int.reduceAdd, Int.reduceSub, Int.reduceMul, Int.reduceLE, Int.reduceLT, Int.reduceEq, Int.reduceNeg, Int.reduceToNat, Int.reduceTDiv, Int.reduceTMod, reduceIte, Nat.reduceEqDiff, Nat.reducePow, Int.reducePow, g0, g4, hb, show ((1 : Nat) : Int) = 1 from rfl]
        refine callKT_pf (p_rchar (byteI s 0)) (by first | (simp only [go_sem, Nat.reduceBEq, Nat.reduceAdd, Nat.reduceMul, Nat.reduceSub, Nat.reduceLeDiff, Int.reduceAdd, Int.reduceSub, Int.reduceMul, Int.reduceLE, Int.reduceLT, Int.reduceEq, Int.reduceNeg, Int.reduceToNat, Int.reduceTDiv, Int.reduceTMod, reduceIte, Nat.reduceEqDiff, Nat.reducePow, Int.reducePow]; done) | (simp only [go_sem, Nat.reduceBEq, Nat.reduceAdd, Nat.reduceMul, Nat.reduceSub, Nat.reduceLeDiff, Int.reduceAdd, Int.reduceSub, Int.reduceMul, Int.reduceLE, Int.reduceLT, Int.reduceEq, Int.reduceNeg, Int.reduceToNat, Int.reduceTDiv, Int.reduceTMod, reduceIte, Nat.reduceEqDiff, Nat.reducePow, Int.reducePow]; rfl) | rfl) ?_; simp only [go_sem, Nat.reduceBEq, Nat.reduceAdd, Nat.reduceMul, Nat.reduceSub, Nat.reduceLeDiff, Int.reduceAdd, Int.reduceSub, Int.reduceMul, Int.reduceLE, Int.reduceLT, Int.reduceEq, Int.reduceNeg, Int.reduceToNat, Int.reduceTDiv, Int.reduceTMod, reduceIte, Nat.reduceEqDiff, Nat.reducePow, Int.reducePow, g0, g4, hb, show ((1 : Nat) : Int) = 1 from rfl]
        (first | with_reducible refine gO_not ?_ ?_ | with_reducible refine gT_not ?_ ?_ | refine gO_split ?_ ?_ | refine gT_split ?_ ?_) <;> intro c3 <;> simp only [go_sem, Nat.reduceBEq, Nat.reduceAdd, Nat.reduceMul, Nat.reduceSub, Nat.reduceLeDiff, Int.reduceAdd, Int.reduceSub, Int.reduceMul, Int.reduceLE, Int.reduceLT, Int.reduceEq, Int.reduceNeg, Int.reduceToNat, Int.reduceTDiv, Int.reduceTMod, reduceIte, Nat.reduceEqDiff, Nat.reducePow, Int.reducePow, g0, g4, hb, show ((1 : Nat) : Int) = 1 from rfl, c3]
        · have := (charB_iffI _).1 c3
          refine callKT_pf (p_rencC (byteI s 0) (by omega) (by omega)) (by first | (simp only [go_sem, Nat.reduceBEq, Nat.reduceAdd, Nat.reduceMul, Nat.reduceSub, Nat.reduceLeDiff, Int.reduceAdd, Int.reduceSub, Int.reduceMul, Int.reduceLE, Int.reduceLT, Int.reduceEq, Int.reduceNeg, Int.reduceToNat, Int.reduceTDiv, Int.reduceTMod, reduceIte, Nat.reduceEqDiff, Nat.reducePow, Int.reducePow]; done) | (simp only [go_sem, Nat.reduceBEq, Nat.reduceAdd, Nat.reduceMul, Nat.reduceSub, Nat.reduceLeDiff, Int.reduceAdd, Int.reduceSub, Int.reduceMul, Int.reduceLE, Int.reduceLT, Int.reduceEq, Int.reduceNeg, Int.reduceToNat, Int.reduceTDiv, Int.reduceTMod, reduceIte, Nat.reduceEqDiff, Nat.reducePow, Int.reducePow]; rfl) | rfl) ?_; simp only [go_sem, Nat.reduceBEq, Nat.reduceAdd, Nat.reduceMul, Nat.reduceSub, Nat.reduceLeDiff, Int.reduceAdd, Int.reduceSub, Int.reduceMul, Int.reduceLE, Int.reduceLT, Int.reduceEq, Int.reduceNeg, Int.reduceToNat, Int.reduceTDiv, Int.reduceTMod, reduceIte, Nat.reduceEqDiff, Nat.reducePow, Int.reducePow, g0, g4, hb, show ((1 : Nat) : Int) = 1 from rfl]
          refine ⟨by omega, by kernel_rfl, ?_⟩
          have ht := fin 1 true (by rw [hn]; exact c3)
          rw [hn, Bool.true_and] at ht
          (first | with_reducible refine condW_not ?_ ?_ | refine condW_split ?_ ?_) <;> intro c4 <;> simp only [go_sem, Nat.reduceBEq, Nat.reduceAdd, Nat.reduceMul, Nat.reduceSub, Nat.reduceLeDiff, Int.reduceAdd, Int.reduceSub, Int.reduceMul, Int.reduceLE, Int.reduceLT, Int.reduceEq, Int.reduceNeg, Int.reduceToNat, Int.reduceTDiv, Int.reduceTMod, reduceIte, Nat.reduceEqDiff, Nat.reducePow, Int.reducePow, g0, g4, hb, show ((1 : Nat) : Int) = 1 from rfl, c4]
          · rw [key (by rw [ht]; exact c4), hn]; rfl
          · exact ⟨2, nxt (by rw [ht]; exact c4), by omega, ⟨_, rfl⟩, rfl⟩
        · refine ⟨by kernel_rfl, 2, nxt (by rw [fin 1 false (by rw [hn]; exact c3)]; rfl), by omega, ⟨_, rfl⟩, rfl⟩
      · refine ⟨by omega, ?_⟩
        have hn : numK s 2 = (byteI s 0 - 192) * 64 + byteI s 1 - 128 := rfl
        have w1 : IntKind.i64.wrap (byteI s 0 - 192) = byteI s 0 - 192 := wrap_i64 (by omega) (by omega)
        have w2 : IntKind.i64.wrap ((byteI s 0 - 192) * 64) = (byteI s 0 - 192) * 64 := wrap_i64 (by omega) (by omega)
        have w3 : IntKind.i64.wrap ((byteI s 0 - 192) * 64 + byteI s 1) = (byteI s 0 - 192) * 64 + byteI s 1 := wrap_i64 (by omega) (by omega)
        have w4 : IntKind.i64.wrap ((byteI s 0 - 192) * 64 + byteI s 1 - 128) = (byteI s 0 - 192) * 64 + byteI s 1 - 128 := wrap_i64 (by omega) (by omega)
        simp only [go_sem, Nat.reduceBEq, Nat.reduceAdd, Nat.reduceMul, Nat.reduceSub, Nat.reduceLeDiff, Int.reduceAdd, Int.reduceSub, Int.reduceMul, Int.reduceLE, Int.reduceLT, Int.reduceEq, Int.reduceNeg, Int.reduceToNat, Int.reduceTDiv, Int.reduceTMod, reduceIte, Nat.reduceEqDiff, Nat.reducePow, Int.reducePow, g0, g4, hb, show ((2 : Nat) : Int) = 2 from rfl, v0, v1, v2, w1, w2, w3, w4]
        refine ⟨by omega, by omega, by kernel_rfl, ?_⟩
        refine callKT_pf (p_rchar ((byteI s 0 - 192) * 64 + byteI s 1 - 128)) (by first | (simp only [go_sem, Nat.reduceBEq, Nat.reduceAdd, Nat.reduceMul, Nat.reduceSub, Nat.reduceLeDiff, Int.reduceAdd, Int.reduceSub, Int.reduceMul, Int.reduceLE, Int.reduceLT, Int.reduceEq, Int.reduceNeg, Int.reduceToNat, Int.reduceTDiv, Int.reduceTMod, reduceIte, Nat.reduceEqDiff, Nat.reducePow, Int.reducePow]; done) | (simp only [go_sem, Nat.reduceBEq, Nat.reduceAdd, Nat.reduceMul, Nat.reduceSub, Nat.reduceLeDiff, Int.reduceAdd, Int.reduceSub, Int.reduceMul, Int.reduceLE, Int.reduceLT, Int.reduceEq, Int.reduceNeg, Int.reduceToNat, Int.reduceTDiv, Int.reduceTMod, reduceIte, Nat.reduceEqDiff, Nat.reducePow, Int.reducePow]; rfl) | rfl) ?_; simp only [go_sem, Nat.reduceBEq, Nat.reduceAdd, Nat.reduceMul, Nat.reduceSub, Nat.reduceLeDiff, Int.reduceAdd, Int.reduceSub, Int.reduceMul, Int.reduceLE, Int.reduceLT, Int.reduceEq, Int.reduceNeg, Int.reduceToNat, Int.reduceTDiv, Int.reduceTMod, reduceIte, Nat.reduceEqDiff, Nat.reducePow, Int.reducePow, g0, g4, hb, show ((2 : Nat) : Int) = 2 from rfl, v0, v1, v2, w1, w2, w3, w4]
        (first | with_reducible refine gO_not ?_ ?_ | with_reducible refine gT_not ?_ ?_ | refine gO_split ?_ ?_ | refine gT_split ?_ ?_) <;> intro c3 <;> simp only [go_sem, Nat.reduceBEq, Nat.reduceAdd, Nat.reduceMul, Nat.reduceSub, Nat.reduceLeDiff, Int.reduceAdd, Int.reduceSub, Int.reduceMul, Int.reduceLE, Int.reduceLT, Int.reduceEq, Int.reduceNeg, Int.reduceToNat, Int.reduceTDiv, Int.reduceTMod, reduceIte, Nat.reduceEqDiff, Nat.reducePow, Int.reducePow, g0, g4, hb, show ((2 : Nat) : Int) = 2 from rfl, v0, v1, v2, w1, w2, w3, w4, c3]
        · have := (charB_iffI _).1 c3
          refine callKT_pf (p_rencC ((byteI s 0 - 192) * 64 + byteI s 1 - 128) (by omega) (by omega)) (by first | (simp only [go_sem, Nat.reduceBEq, Nat.reduceAdd, Nat.reduceMul, Nat.reduceSub, Nat.reduceLeDiff, Int.reduceAdd, Int.reduceSub, Int.reduceMul, Int.reduceLE, Int.reduceLT, Int.reduceEq, Int.reduceNeg, Int.reduceToNat, Int.reduceTDiv, Int.reduceTMod, reduceIte, Nat.reduceEqDiff, Nat.reducePow, Int.reducePow]; done) | (simp only [go_sem, Nat.reduceBEq, Nat.reduceAdd, Nat.reduceMul, Nat.reduceSub, Nat.reduceLeDiff, Int.reduceAdd, Int.reduceSub, Int.reduceMul, Int.reduceLE, Int.reduceLT, Int.reduceEq, Int.reduceNeg, Int.reduceToNat, Int.reduceTDiv, Int.reduceTMod, reduceIte, Nat.reduceEqDiff, Nat.reducePow, Int.reducePow]; rfl) | rfl) ?_; simp only [go_sem, Nat.reduceBEq, Nat.reduceAdd, Nat.reduceMul, Nat.reduceSub, Nat.reduceLeDiff, Int.reduceAdd, Int.reduceSub, Int.reduceMul, Int.reduceLE, Int.reduceLT, Int.reduceEq, Int.reduceNeg, Int.reduceToNat, Int.reduceTDiv, Int.reduceTMod, reduceIte, Nat.reduceEqDiff, Nat.reducePow, Int.reducePow, g0, g4, hb, show ((2 : Nat) : Int) = 2 from rfl, v0, v1, v2, w1, w2, w3, w4]
          refine ⟨by omega, by kernel_rfl, ?_⟩
          have ht := fin 2 true (by rw [hn]; exact c3)
          rw [hn, Bool.true_and] at ht
          (first | with_reducible refine condW_not ?_ ?_ | refine condW_split ?_ ?_) <;> intro c4 <;> simp only [go_sem, Nat.reduceBEq, Nat.reduceAdd, Nat.reduceMul, Nat.reduceSub, Nat.reduceLeDiff, Int.reduceAdd, Int.reduceSub, Int.reduceMul, Int.reduceLE, Int.reduceLT, Int.reduceEq, Int.reduceNeg, Int.reduceToNat, Int.reduceTDiv, Int.reduceTMod, reduceIte, Nat.reduceEqDiff, Nat.reducePow, Int.reducePow, g0, g4, hb, show ((2 : Nat) : Int) = 2 from rfl, v0, v1, v2, w1, w2, w3, w4, c4]
          · rw [key (by rw [ht]; exact c4), hn]; rfl
          · exact ⟨3, nxt (by rw [ht]; exact c4), by omega, ⟨_, rfl⟩, rfl⟩
        · refine ⟨by kernel_rfl, 3, nxt (by rw [fin 2 false (by rw [hn]; exact c3)]; rfl), by omega, ⟨_, rfl⟩, rfl⟩
      · refine ⟨by omega, ?_⟩
        have hn : numK s 3 = (byteI s 0 - 224) * 4096 + (byteI s 1 - 128) * 64 + byteI s 2 - 128 := rfl
        have w1 : IntKind.i64.wrap (byteI s 0 - 224) = byteI s 0 - 224 := wrap_i64 (by omega) (by omega)
        have w2 : IntKind.i64.wrap ((byteI s 0 - 224) * 4096) = (byteI s 0 - 224) * 4096 := wrap_i64 (by omega) (by omega)
        have w3 : IntKind.i64.wrap (byteI s 1 - 128) = byteI s 1 - 128 := wrap_i64 (by omega) (by omega)
        have w4 : IntKind.i64.wrap ((byteI s 1 - 128) * 64) = (byteI s 1 - 128) * 64 := wrap_i64 (by omega) (by omega)
        have w5 : IntKind.i64.wrap ((byteI s 0 - 224) * 4096 + (byteI s 1 - 128) * 64) = (byteI s 0 - 224) * 4096 + (byteI s 1 - 128) * 64 := wrap_i64 (by omega) (by omega)
        have w6 : IntKind.i64.wrap ((byteI s 0 - 224) * 4096 + (byteI s 1 - 128) * 64 + byteI s 2) = (byteI s 0 - 224) * 4096 + (byteI s 1 - 128) * 64 + byteI s 2 := wrap_i64 (by omega) (by omega)
        have w7 : IntKind.i64.wrap ((byteI s 0 - 224) * 4096 + (byteI s 1 - 128) * 64 + byteI s 2 - 128) = (byteI s 0 - 224) * 4096 + (byteI s 1 - 128) * 64 + byteI s 2 - 128 := wrap_i64 (by omega) (by omega)
        simp only [go_sem, Nat.reduceBEq, Nat.reduceAdd, Nat.reduceMul, Nat.reduceSub, Nat.reduceLeDiff, Int.reduceAdd, Int.reduceSub, Int.reduceMul, Int.reduceLE, Int.reduceLT, Int.reduceEq, Int.reduceNeg, Int.reduceToNat, Int.reduceTDiv, Int.reduceTMod, reduceIte, Nat.reduceEqDiff, Nat.reducePow, Int.reducePow, g0, g4, hb, show ((3 : Nat) : Int) = 3 from rfl, v0, v1, v2, w1, w2, w3, w4, w5, w6, w7]
        refine ⟨by omega, by omega, by omega, by kernel_rfl, ?_⟩
        refine callKT_pf (p_rchar ((byteI s 0 - 224) * 4096 + (byteI s 1 - 128) * 64 + byteI s 2 - 128)) (by first | (simp only [go_sem, Nat.reduceBEq, Nat.reduceAdd, Nat.reduceMul, Nat.reduceSub, Nat.reduceLeDiff, Int.reduceAdd, Int.reduceSub, Int.reduceMul, Int.reduceLE, Int.reduceLT, Int.reduceEq, Int.reduceNeg, Int.reduceToNat, Int.reduceTDiv, Int.reduceTMod, reduceIte, Nat.reduceEqDiff, Nat.reducePow, Int.reducePow]; done) | (simp only [go_sem, Nat.reduceBEq, Nat.reduceAdd, Nat.reduceMul, Nat.reduceSub, Nat.reduceLeDiff, Int.reduceAdd, Int.reduceSub, Int.reduceMul, Int.reduceLE, Int.reduceLT, Int.reduceEq, Int.reduceNeg, Int.reduceToNat, Int.reduceTDiv, Int.reduceTMod, reduceIte, Nat.reduceEqDiff, Nat.reducePow, Int.reducePow]; rfl) | rfl) ?_; simp only [go_sem, Nat.reduceBEq, Nat.reduceAdd, Nat.reduceMul, Nat.reduceSub, Nat.reduceLeDiff, Int.reduceAdd, Int.reduceSub, Int.reduceMul, Int.reduceLE, Int.reduceLT, Int.reduceEq, Int.reduceNeg, Int.reduceToNat, Int.reduceTDiv, Int.reduceTMod, reduceIte, Nat.reduceEqDiff, Nat.reducePow, Int.reducePow, g0, g4, hb, show ((3 : Nat) : Int) = 3 from rfl, v0, v1, v2, w1, w2, w3, w4, w5, w6, w7]
        (first | with_reducible refine gO_not ?_ ?_ | with_reducible refine gT_not ?_ ?_ | refine gO_split ?_ ?_ | refine gT_split ?_ ?_) <;> intro c3 <;> simp only [go_sem, Nat.reduceBEq, Nat.reduceAdd, Nat.reduceMul, Nat.reduceSub, Nat.reduceLeDiff, Int.reduceAdd, Int.reduceSub, Int.reduceMul, Int.reduceLE, Int.reduceLT, Int.reduceEq, Int.reduceNeg, Int.reduceToNat, Int.reduceTDiv, Int.reduceTMod, reduceIte, Nat.reduceEqDiff, Nat.reducePow, Int.reducePow, g0, g4, hb, show ((3 : Nat) : Int) = 3 from rfl, v0, v1, v2, w1, w2, w3, w4, w5, w6, w7, c3]
        · have := (charB_iffI _).1 c3
          refine callKT_pf (p_rencC ((byteI s 0 - 224) * 4096 + (byteI s 1 - 128) * 64 + byteI s 2 - 128) (by omega) (by omega)) (by first | (simp only [go_sem, Nat.reduceBEq, Nat.reduceAdd, Nat.reduceMul, Nat.reduceSub, Nat.reduceLeDiff, Int.reduceAdd, Int.reduceSub, Int.reduceMul, Int.reduceLE, Int.reduceLT, Int.reduceEq, Int.reduceNeg, Int.reduceToNat, Int.reduceTDiv, Int.reduceTMod, reduceIte, Nat.reduceEqDiff, Nat.reducePow, Int.reducePow]; done) | (simp only [go_sem, Nat.reduceBEq, Nat.reduceAdd, Nat.reduceMul, Nat.reduceSub, Nat.reduceLeDiff, Int.reduceAdd, Int.reduceSub, Int.reduceMul, Int.reduceLE, Int.reduceLT, Int.reduceEq, Int.reduceNeg, Int.reduceToNat, Int.reduceTDiv, Int.reduceTMod, reduceIte, Nat.reduceEqDiff, Nat.reducePow, Int.reducePow]; rfl) | rfl) ?_; simp only [go_sem, Nat.reduceBEq, Nat.reduceAdd, Nat.reduceMul, Nat.reduceSub, Nat.reduceLeDiff, Int.reduceAdd, Int.reduceSub, Int.reduceMul, Int.reduceLE, Int.reduceLT, Int.reduceEq, Int.reduceNeg, Int.reduceToNat, Int.reduceTDiv, Int.reduceTMod, reduceIte, Nat.reduceEqDiff, Nat.reducePow, Int.reducePow, g0, g4, hb, show ((3 : Nat) : Int) = 3 from rfl, v0, v1, v2, w1, w2, w3, w4, w5, w6, w7]
          refine ⟨by omega, by kernel_rfl, ?_⟩
          have ht := fin 3 true (by rw [hn]; exact c3)
          rw [hn, Bool.true_and] at ht
          (first | with_reducible refine condW_not ?_ ?_ | refine condW_split ?_ ?_) <;> intro c4 <;> simp only [go_sem, Nat.reduceBEq, Nat.reduceAdd, Nat.reduceMul, Nat.reduceSub, Nat.reduceLeDiff, Int.reduceAdd, Int.reduceSub, Int.reduceMul, Int.reduceLE, Int.reduceLT, Int.reduceEq, Int.reduceNeg, Int.reduceToNat, Int.reduceTDiv, Int.reduceTMod, reduceIte, Nat.reduceEqDiff, Nat.reducePow, Int.reducePow, g0, g4, hb, show ((3 : Nat) : Int) = 3 from rfl, v0, v1, v2, w1, w2, w3, w4, w5, w6, w7, c4]
          · rw [key (by rw [ht]; exact c4), hn]; rfl
          · exact ⟨4, nxt (by rw [ht]; exact c4), by omega, ⟨_, rfl⟩, rfl⟩
        · refine ⟨by kernel_rfl, 4, nxt (by rw [fin 3 false (by rw [hn]; exact c3)]; rfl), by omega, ⟨_, rfl⟩, rfl⟩
    · rw [first_none s (fun j a b c => i3 j a (by have := toNot c2; omega) c)]
  · rw [first_none s (fun j a b c => i3 j a (by have := toNot c1; omega) c)]
end Go.Proofs.YtjmldlknegbimaaGreatDoor.Sx
