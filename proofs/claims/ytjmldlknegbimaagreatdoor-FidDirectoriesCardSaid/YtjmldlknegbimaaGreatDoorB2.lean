/- Sums and checksums: what the functions compute. -/
import Derived.Test.YtjmldlknegbimaaGreatDoorB1
set_option linter.unusedVariables false
set_option linter.unusedSimpArgs false
namespace Go.Proofs.YtjmldlknegbimaaGreatDoor.Sx
open Go Go.RowKit
variable {G : Gl}

theorem foldl_take_succ {α β : Type} (f : β → α → β) (z : β) (l : List α) (i : Nat) (h : i < l.length) : (l.take (i + 1)).foldl f z = f ((l.take i).foldl f z) l[i] := by
  rw [List.take_succ_eq_append_getElem h, List.foldl_append]; rfl
def sum8 (s : List UInt8) : UInt8 := s.foldl (· + ·) 0
theorem p_sum8 (s : List UInt8) (hs : s.length < 2 ^ 40) : PF Tryz.prog G 114 [.str s] (.int .u8 (sum8 s).toNat) := by
  refine PF.of_body mo Tryz.func114 rfl (by kernel_rfl) (by kernel_rfl) (by simp [Tryz.ntmps114]) ?_; simp only [go_sem, Nat.reduceBEq, Nat.reduceAdd, Nat.reduceMul, Nat.reduceSub, Nat.reduceLeDiff, Int.reduceAdd, Int.reduceSub, Int.reduceMul, Int.reduceLE, Int.reduceLT, Int.reduceEq, Int.reduceNeg, Int.reduceToNat, Int.reduceTDiv, Int.reduceTMod, reduceIte, Nat.reduceEqDiff, Nat.reducePow, Int.reducePow, Tryz.results114]
  refine wpc_loop Nat (fun i => [(0, .d (.str s)), (3, .d (.int .u8 (((s.take i).foldl (· + ·) (0 : UInt8)).toNat : Nat))), (6, .d (.int .i64 s.length)), (7, .d (.int .i64 i))]) (fun i => []) (fun i => i ≤ s.length) (fun i => s.length - i) 0
    (.refl _ _) (fun i hi => ⟨Nat.zero_le _, rfl, rfl⟩) (Nat.zero_le _) rfl ?_ ?_
  · simp only [go_sem, Nat.reduceBEq, Nat.reduceAdd, Nat.reduceMul, Nat.reduceSub, Nat.reduceLeDiff, Int.reduceAdd, Int.reduceSub, Int.reduceMul, Int.reduceLE, Int.reduceLT, Int.reduceEq, Int.reduceNeg, Int.reduceToNat, Int.reduceTDiv, Int.reduceTMod, reduceIte, Nat.reduceEqDiff, Nat.reducePow, Int.reducePow, Int.natCast_zero]
    simp
  intro i e hi ⟨g0, g3, g6, g7, _⟩
  simp only [go_sem, Nat.reduceBEq, Nat.reduceAdd, Nat.reduceMul, Nat.reduceSub, Nat.reduceLeDiff, Int.reduceAdd, Int.reduceSub, Int.reduceMul, Int.reduceLE, Int.reduceLT, Int.reduceEq, Int.reduceNeg, Int.reduceToNat, Int.reduceTDiv, Int.reduceTMod, reduceIte, Nat.reduceEqDiff, Nat.reducePow, Int.reducePow, g0, g3, g6, g7]
  (first | with_reducible refine condW_not ?_ ?_ | refine condW_split ?_ ?_) <;> intro h <;> simp only [go_sem, Nat.reduceBEq, Nat.reduceAdd, Nat.reduceMul, Nat.reduceSub, Nat.reduceLeDiff, Int.reduceAdd, Int.reduceSub, Int.reduceMul, Int.reduceLE, Int.reduceLT, Int.reduceEq, Int.reduceNeg, Int.reduceToNat, Int.reduceTDiv, Int.reduceTMod, reduceIte, Nat.reduceEqDiff, Nat.reducePow, Int.reducePow, g0, g3, g6, g7, h]
  · have hlt : i < s.length := by have := toProp h; omega
    refine ⟨⟨by omega, hlt⟩, i + 1, by omega, by omega, ⟨_, rfl⟩, ?_, by rw [wrap_i64 (by omega) (by omega)]; rfl⟩
    rw [foldl_take_succ _ _ _ _ hlt, wrap_u8, UInt8.toNat_add]
    rfl
  · have : i = s.length := by have := toNot h; omega
    subst this
    simp [sum8]
theorem p_rsum8 (s : List UInt8) (hs : s.length < 2 ^ 40) : PF Tryz.prog G 116 [.str s] (.int .u8 (sum8 s).toNat) := by
  refine PF.of_body mo Tryz.func116 rfl (by kernel_rfl) (by kernel_rfl) (by simp [Tryz.ntmps116]) ?_; simp only [go_sem, Nat.reduceBEq, Nat.reduceAdd, Nat.reduceMul, Nat.reduceSub, Nat.reduceLeDiff, Int.reduceAdd, Int.reduceSub, Int.reduceMul, Int.reduceLE, Int.reduceLT, Int.reduceEq, Int.reduceNeg, Int.reduceToNat, Int.reduceTDiv, Int.reduceTMod, reduceIte, Nat.reduceEqDiff, Nat.reducePow, Int.reducePow, Tryz.results116]
  refine wpc_loop Nat (fun i => [(0, .d (.str s)), (3, .d (.int .i64 (((s.take i).foldl (· + ·) (0 : UInt8)).toNat : Nat))), (4, .d (.int .i64 i))]) (fun i => []) (fun i => i ≤ s.length) (fun i => s.length - i) 0
    (.refl _ _) (fun i hi => ⟨Nat.zero_le _, rfl, rfl⟩) (Nat.zero_le _) rfl ?_ ?_
  · simp only [go_sem, Nat.reduceBEq, Nat.reduceAdd, Nat.reduceMul, Nat.reduceSub, Nat.reduceLeDiff, Int.reduceAdd, Int.reduceSub, Int.reduceMul, Int.reduceLE, Int.reduceLT, Int.reduceEq, Int.reduceNeg, Int.reduceToNat, Int.reduceTDiv, Int.reduceTMod, reduceIte, Nat.reduceEqDiff, Nat.reducePow, Int.reducePow, Int.natCast_zero]
    simp
  intro i e hi ⟨g0, g3, g4, _⟩
  simp only [go_sem, Nat.reduceBEq, Nat.reduceAdd, Nat.reduceMul, Nat.reduceSub, Nat.reduceLeDiff, Int.reduceAdd, Int.reduceSub, Int.reduceMul, Int.reduceLE, Int.reduceLT, Int.reduceEq, Int.reduceNeg, Int.reduceToNat, Int.reduceTDiv, Int.reduceTMod, reduceIte, Nat.reduceEqDiff, Nat.reducePow, Int.reducePow, g0, g3, g4]
  (first | with_reducible refine condW_not ?_ ?_ | refine condW_split ?_ ?_) <;> intro h <;> simp only [go_sem, Nat.reduceBEq, Nat.reduceAdd, Nat.reduceMul, Nat.reduceSub, Nat.reduceLeDiff, Int.reduceAdd, Int.reduceSub, Int.reduceMul, Int.reduceLE, Int.reduceLT, Int.reduceEq, Int.reduceNeg, Int.reduceToNat, Int.reduceTDiv, Int.reduceTMod, reduceIte, Nat.reduceEqDiff, Nat.reducePow, Int.reducePow, g0, g3, g4, h]
  · have hlt : i < s.length := by have := toProp h; omega
    have hb := (s[i]).toNat_lt
    have ha := ((s.take i).foldl (· + ·) (0 : UInt8)).toNat_lt
    refine ⟨⟨by omega, hlt⟩, i + 1, by omega, by omega, ⟨_, rfl⟩, ?_, by rw [wrap_i64 (by omega) (by omega)]; rfl⟩
    rw [foldl_take_succ _ _ _ _ hlt, UInt8.toNat_add, wrap_i64 (by omega) (by omega), Int.tmod_eq_emod_of_nonneg (by omega)]
    rfl
  · have : i = s.length := by have := toNot h; omega
    subst this
    simp [sum8]

/-! The checksum of 16 bits -/
abbrev W16 := BitVec 16
def crcStep (x : W16) : W16 := if x.msb then (x <<< 1) ^^^ 4129#16 else x <<< 1
def crcN : Nat → W16 → W16
  | 0, x => x
  | k + 1, x => crcN k (crcStep x)
theorem crcN_succ (k : Nat) (x : W16) : crcN (k + 1) x = crcStep (crcN k x) := by
  induction k generalizing x with
  | zero => rfl
  | succ k ih => rw [crcN, ih, ← crcN]
theorem crcStep_xor (x y : W16) : crcStep (x ^^^ y) = crcStep x ^^^ crcStep y := by
  unfold crcStep
  rw [BitVec.msb_xor, BitVec.shiftLeft_xor_distrib]
  have e : ∀ a b c : W16, a ^^^ b ^^^ c = a ^^^ c ^^^ b := fun a b c => by rw [BitVec.xor_assoc, BitVec.xor_comm b c, ← BitVec.xor_assoc]
  cases x.msb <;> cases y.msb
  · simp
  · simp [BitVec.xor_assoc]
  · simp [e _ 4129#16]
  · simp only [Bool.false_eq_true, if_false, if_true, bne_self_eq_false]
    rw [← BitVec.xor_assoc, e _ 4129#16 _, BitVec.xor_assoc _ 4129#16 4129#16, BitVec.xor_self, BitVec.xor_zero]
theorem crcN_xor (k : Nat) (x y : W16) : crcN k (x ^^^ y) = crcN k x ^^^ crcN k y := by
  induction k generalizing x y with
  | zero => rfl
  | succ k ih => simp only [crcN, crcStep_xor, ih]
def b16 (b : UInt8) : W16 := BitVec.ofNat 16 b.toNat
def crcB (x : W16) (b : UInt8) : W16 := crcN 8 (x ^^^ (b16 b <<< 8))
def crcE (x : W16) (s : List UInt8) : W16 := s.foldl crcB x
def crc16 (s : List UInt8) : W16 := crcE 0 s
theorem crc_low : ∀ b : Fin 256, crcN 8 (BitVec.ofNat 16 b.val) = BitVec.ofNat 16 b.val <<< 8 := by decide +kernel
theorem w16_lt (x : W16) : (x.toNat : Int) < 65536 := by have := x.isLt; omega
theorem xor16 (x y : W16) : bits .xor .u16 (x.toNat : Int) (y.toNat : Int) = ((x ^^^ y).toNat : Int) := by
  rw [u16_xor_nat _ _ x.isLt y.isLt, BitVec.toNat_xor]
theorem xor4129 (x : W16) : bits .xor .u16 (x.toNat : Int) 4129 = ((x ^^^ 4129#16).toNat : Int) := xor16 x 4129#16
theorem shl1_16 (x : W16) : IntKind.u16.wrap ((x.toNat : Int) * 2) = ((x <<< 1).toNat : Int) := by
  rw [wrap_u16, BitVec.toNat_shiftLeft, Nat.shiftLeft_eq]; omega
theorem shl8_16 (x : W16) : IntKind.u16.wrap ((x.toNat : Int) * 256) = ((x <<< 8).toNat : Int) := by
  rw [wrap_u16, BitVec.toNat_shiftLeft, Nat.shiftLeft_eq]; omega
theorem b16_toNat (b : UInt8) : IntKind.u16.wrap (b.toNat : Int) = ((b16 b).toNat : Int) := by
  have := b.toNat_lt
  rw [wrap_u16, b16, BitVec.toNat_ofNat]; omega
theorem msb16 (x : W16) : x.msb = decide (32768 ≤ x.toNat) := by rw [BitVec.msb_eq_decide]
theorem shr15_16 (x : W16) : decide (Int.fdiv (x.toNat : Int) 32768 = 1) = x.msb := by
  have := x.isLt
  rw [msb16, Int.fdiv_eq_ediv_of_nonneg _ (by decide)]
  by_cases h : 32768 ≤ x.toNat
  · simp [h]; omega
  · simp [h]; omega
theorem quo_16 (x : W16) : decide (IntKind.u16.wrap ((x.toNat : Int).tdiv 32768) = 1) = x.msb := by
  have := x.isLt
  rw [← shr15_16, Int.fdiv_eq_ediv_of_nonneg _ (by decide), Int.tdiv_eq_ediv_of_nonneg (by omega), wrap_u16, Int.emod_eq_of_lt (by omega) (by omega)]
theorem rem_16 (x : W16) : IntKind.u16.wrap ((x.toNat : Int).tmod 32768 * 2) = ((x <<< 1).toNat : Int) := by
  rw [← shl1_16, Int.tmod_eq_emod_of_nonneg (by omega), wrap_u16, wrap_u16]; omega
theorem p_direct1 (b : UInt8) : PF Tryz.prog G 120 [.int .u8 b.toNat] (.int .u16 (crcN 8 (b16 b <<< 8)).toNat) := by
  refine PF.of_body mo Tryz.func120 rfl (by kernel_rfl) (by kernel_rfl) (by simp [Tryz.ntmps120]) ?_; simp only [go_sem, Nat.reduceBEq, Nat.reduceAdd, Nat.reduceMul, Nat.reduceSub, Nat.reduceLeDiff, Int.reduceAdd, Int.reduceSub, Int.reduceMul, Int.reduceLE, Int.reduceLT, Int.reduceEq, Int.reduceNeg, Int.reduceToNat, Int.reduceTDiv, Int.reduceTMod, reduceIte, Nat.reduceEqDiff, Nat.reducePow, Int.reducePow, Tryz.results120]
  refine wpc_loop Nat (fun i => [(3, .d (.int .u16 ((crcN i (b16 b <<< 8)).toNat : Nat))), (7, .d (.int .i64 i))]) (fun i => []) (fun i => i ≤ 8) (fun i => 8 - i) 0
    (.refl _ _) (fun i hi => ⟨Nat.zero_le _, rfl, rfl⟩) (Nat.zero_le _) rfl ?_ ?_
  · simp only [go_sem, Nat.reduceBEq, Nat.reduceAdd, Nat.reduceMul, Nat.reduceSub, Nat.reduceLeDiff, Int.reduceAdd, Int.reduceSub, Int.reduceMul, Int.reduceLE, Int.reduceLT, Int.reduceEq, Int.reduceNeg, Int.reduceToNat, Int.reduceTDiv, Int.reduceTMod, reduceIte, Nat.reduceEqDiff, Nat.reducePow, Int.reducePow, Int.natCast_zero, b16_toNat, shl8_16, crcN]
  intro i e hi ⟨g3, g7, _⟩
  simp only [go_sem, Nat.reduceBEq, Nat.reduceAdd, Nat.reduceMul, Nat.reduceSub, Nat.reduceLeDiff, Int.reduceAdd, Int.reduceSub, Int.reduceMul, Int.reduceLE, Int.reduceLT, Int.reduceEq, Int.reduceNeg, Int.reduceToNat, Int.reduceTDiv, Int.reduceTMod, reduceIte, Nat.reduceEqDiff, Nat.reducePow, Int.reducePow, g3, g7]
  (first | with_reducible refine condW_not ?_ ?_ | refine condW_split ?_ ?_) <;> intro h <;> simp only [go_sem, Nat.reduceBEq, Nat.reduceAdd, Nat.reduceMul, Nat.reduceSub, Nat.reduceLeDiff, Int.reduceAdd, Int.reduceSub, Int.reduceMul, Int.reduceLE, Int.reduceLT, Int.reduceEq, Int.reduceNeg, Int.reduceToNat, Int.reduceTDiv, Int.reduceTMod, reduceIte, Nat.reduceEqDiff, Nat.reducePow, Int.reducePow, g3, g7, h]
  · have hlt : i < 8 := by have := toProp h; omega
    simp only [go_sem, Nat.reduceBEq, Nat.reduceAdd, Nat.reduceMul, Nat.reduceSub, Nat.reduceLeDiff, Int.reduceAdd, Int.reduceSub, Int.reduceMul, Int.reduceLE, Int.reduceLT, Int.reduceEq, Int.reduceNeg, Int.reduceToNat, Int.reduceTDiv, Int.reduceTMod, reduceIte, Nat.reduceEqDiff, Nat.reducePow, Int.reducePow, g3, g7, shr15_16]
    (first | with_reducible refine condW_not ?_ ?_ | refine condW_split ?_ ?_) <;> intro h2 <;> simp only [go_sem, Nat.reduceBEq, Nat.reduceAdd, Nat.reduceMul, Nat.reduceSub, Nat.reduceLeDiff, Int.reduceAdd, Int.reduceSub, Int.reduceMul, Int.reduceLE, Int.reduceLT, Int.reduceEq, Int.reduceNeg, Int.reduceToNat, Int.reduceTDiv, Int.reduceTMod, reduceIte, Nat.reduceEqDiff, Nat.reducePow, Int.reducePow, g3, g7, h2]
    · simp only [go_sem, Nat.reduceBEq, Nat.reduceAdd, Nat.reduceMul, Nat.reduceSub, Nat.reduceLeDiff, Int.reduceAdd, Int.reduceSub, Int.reduceMul, Int.reduceLE, Int.reduceLT, Int.reduceEq, Int.reduceNeg, Int.reduceToNat, Int.reduceTDiv, Int.reduceTMod, reduceIte, Nat.reduceEqDiff, Nat.reducePow, Int.reducePow, g3, g7, shl1_16, xor4129]
      refine ⟨i + 1, by omega, by omega, ⟨_, rfl⟩, ?_, by rw [wrap_i64 (by omega) (by omega)]; rfl⟩
      rw [crcN_succ, crcStep, if_pos h2]
    · simp only [go_sem, Nat.reduceBEq, Nat.reduceAdd, Nat.reduceMul, Nat.reduceSub, Nat.reduceLeDiff, Int.reduceAdd, Int.reduceSub, Int.reduceMul, Int.reduceLE, Int.reduceLT, Int.reduceEq, Int.reduceNeg, Int.reduceToNat, Int.reduceTDiv, Int.reduceTMod, reduceIte, Nat.reduceEqDiff, Nat.reducePow, Int.reducePow, g3, g7, shl1_16]
      refine ⟨i + 1, by omega, by omega, ⟨_, rfl⟩, ?_, by rw [wrap_i64 (by omega) (by omega)]; rfl⟩
      rw [crcN_succ, crcStep, if_neg (by simp [h2])]
  · have : i = 8 := by have := toNot h; omega
    subst this
    rfl
theorem p_rcrc (x : W16) (s : List UInt8) (hs : s.length < 2 ^ 40) : PF Tryz.prog G 113 [.int .u16 x.toNat, .str s] (.int .u16 (crcE x s).toNat) := by
  refine PF.of_body mo Tryz.func113 rfl (by kernel_rfl) (by kernel_rfl) (by simp [Tryz.ntmps113]) ?_; simp only [go_sem, Nat.reduceBEq, Nat.reduceAdd, Nat.reduceMul, Nat.reduceSub, Nat.reduceLeDiff, Int.reduceAdd, Int.reduceSub, Int.reduceMul, Int.reduceLE, Int.reduceLT, Int.reduceEq, Int.reduceNeg, Int.reduceToNat, Int.reduceTDiv, Int.reduceTMod, reduceIte, Nat.reduceEqDiff, Nat.reducePow, Int.reducePow, Tryz.results113]
  refine wpc_loop Nat (fun i => [(0, .d (.int .u16 ((crcE x (s.take i)).toNat : Nat))), (1, .d (.str s)), (5, .d (.int .i64 i))]) (fun i => []) (fun i => i ≤ s.length) (fun i => s.length - i) 0
    (.refl _ _) (fun i hi => ⟨Nat.zero_le _, rfl, rfl⟩) (Nat.zero_le _) rfl ?_ ?_
  · simp only [go_sem, Nat.reduceBEq, Nat.reduceAdd, Nat.reduceMul, Nat.reduceSub, Nat.reduceLeDiff, Int.reduceAdd, Int.reduceSub, Int.reduceMul, Int.reduceLE, Int.reduceLT, Int.reduceEq, Int.reduceNeg, Int.reduceToNat, Int.reduceTDiv, Int.reduceTMod, reduceIte, Nat.reduceEqDiff, Nat.reducePow, Int.reducePow, Int.natCast_zero]
    simp [crcE]
  intro i e hi ⟨g0, g1, g5, _⟩
  simp only [go_sem, Nat.reduceBEq, Nat.reduceAdd, Nat.reduceMul, Nat.reduceSub, Nat.reduceLeDiff, Int.reduceAdd, Int.reduceSub, Int.reduceMul, Int.reduceLE, Int.reduceLT, Int.reduceEq, Int.reduceNeg, Int.reduceToNat, Int.reduceTDiv, Int.reduceTMod, reduceIte, Nat.reduceEqDiff, Nat.reducePow, Int.reducePow, g0, g1, g5]
  (first | with_reducible refine condW_not ?_ ?_ | refine condW_split ?_ ?_) <;> intro h <;> simp only [go_sem, Nat.reduceBEq, Nat.reduceAdd, Nat.reduceMul, Nat.reduceSub, Nat.reduceLeDiff, Int.reduceAdd, Int.reduceSub, Int.reduceMul, Int.reduceLE, Int.reduceLT, Int.reduceEq, Int.reduceNeg, Int.reduceToNat, Int.reduceTDiv, Int.reduceTMod, reduceIte, Nat.reduceEqDiff, Nat.reducePow, Int.reducePow, g0, g1, g5, h]
  · have hlt : i < s.length := by have := toProp h; omega
    refine ⟨⟨by omega, hlt⟩, ?_⟩
    simp only [go_sem, Nat.reduceBEq, Nat.reduceAdd, Nat.reduceMul, Nat.reduceSub, Nat.reduceLeDiff, Int.reduceAdd, Int.reduceSub, Int.reduceMul, Int.reduceLE, Int.reduceLT, Int.reduceEq, Int.reduceNeg, Int.reduceToNat, Int.reduceTDiv, Int.reduceTMod, reduceIte, Nat.reduceEqDiff, Nat.reducePow, Int.reducePow, g0, g1, g5, b16_toNat, shl8_16, xor16]
    refine wpc_loop Nat (fun k => [(0, .d (.int .u16 ((crcN k (crcE x (s.take i) ^^^ (b16 s[i] <<< 8))).toNat : Nat))), (1, .d (.str s)), (5, .d (.int .i64 i)), (6, .d (.int .i64 k))]) (fun _ => []) (fun k => k ≤ 8) (fun k => 8 - k) 0
      (.refl _ _) (fun i hi => ⟨Nat.zero_le _, rfl, rfl⟩) (Nat.zero_le _) rfl ?_ ?_
    · simp only [go_sem, Nat.reduceBEq, Nat.reduceAdd, Nat.reduceMul, Nat.reduceSub, Nat.reduceLeDiff, Int.reduceAdd, Int.reduceSub, Int.reduceMul, Int.reduceLE, Int.reduceLT, Int.reduceEq, Int.reduceNeg, Int.reduceToNat, Int.reduceTDiv, Int.reduceTMod, reduceIte, Nat.reduceEqDiff, Nat.reducePow, Int.reducePow, g0, g1, g5, Int.natCast_zero, crcN]
    intro k e' hk ⟨q0, q1, q5, q6, _⟩
    simp only [go_sem, Nat.reduceBEq, Nat.reduceAdd, Nat.reduceMul, Nat.reduceSub, Nat.reduceLeDiff, Int.reduceAdd, Int.reduceSub, Int.reduceMul, Int.reduceLE, Int.reduceLT, Int.reduceEq, Int.reduceNeg, Int.reduceToNat, Int.reduceTDiv, Int.reduceTMod, reduceIte, Nat.reduceEqDiff, Nat.reducePow, Int.reducePow, q0, q1, q5, q6]
    (first | with_reducible refine condW_not ?_ ?_ | refine condW_split ?_ ?_) <;> intro h3 <;> simp only [go_sem, Nat.reduceBEq, Nat.reduceAdd, Nat.reduceMul, Nat.reduceSub, Nat.reduceLeDiff, Int.reduceAdd, Int.reduceSub, Int.reduceMul, Int.reduceLE, Int.reduceLT, Int.reduceEq, Int.reduceNeg, Int.reduceToNat, Int.reduceTDiv, Int.reduceTMod, reduceIte, Nat.reduceEqDiff, Nat.reducePow, Int.reducePow, q0, q1, q5, q6, h3]
    · have hkk : k < 8 := by have := toProp h3; omega
      simp only [go_sem, Nat.reduceBEq, Nat.reduceAdd, Nat.reduceMul, Nat.reduceSub, Nat.reduceLeDiff, Int.reduceAdd, Int.reduceSub, Int.reduceMul, Int.reduceLE, Int.reduceLT, Int.reduceEq, Int.reduceNeg, Int.reduceToNat, Int.reduceTDiv, Int.reduceTMod, reduceIte, Nat.reduceEqDiff, Nat.reducePow, Int.reducePow, q0, q1, q5, q6, quo_16, rem_16]
      (first | with_reducible refine condW_not ?_ ?_ | refine condW_split ?_ ?_) <;> intro h2 <;> simp only [go_sem, Nat.reduceBEq, Nat.reduceAdd, Nat.reduceMul, Nat.reduceSub, Nat.reduceLeDiff, Int.reduceAdd, Int.reduceSub, Int.reduceMul, Int.reduceLE, Int.reduceLT, Int.reduceEq, Int.reduceNeg, Int.reduceToNat, Int.reduceTDiv, Int.reduceTMod, reduceIte, Nat.reduceEqDiff, Nat.reducePow, Int.reducePow, q0, q1, q5, q6, h2]
      · simp only [go_sem, Nat.reduceBEq, Nat.reduceAdd, Nat.reduceMul, Nat.reduceSub, Nat.reduceLeDiff, Int.reduceAdd, Int.reduceSub, Int.reduceMul, Int.reduceLE, Int.reduceLT, Int.reduceEq, Int.reduceNeg, Int.reduceToNat, Int.reduceTDiv, Int.reduceTMod, reduceIte, Nat.reduceEqDiff, Nat.reducePow, Int.reducePow, q0, q1, q5, q6, xor4129]
        refine ⟨k + 1, by omega, by omega, ⟨_, rfl⟩, ?_, by rw [wrap_i64 (by omega) (by omega)]; rfl⟩
        rw [crcN_succ, crcStep, if_pos h2]
      · refine ⟨k + 1, by omega, by omega, ⟨_, rfl⟩, ?_, by rw [wrap_i64 (by omega) (by omega)]; rfl⟩
        rw [crcN_succ, crcStep, if_neg (by simp [h2])]
    · have : k = 8 := by have := toNot h3; omega
      subst this
      refine ⟨i + 1, by omega, by omega, ⟨_, rfl⟩, ?_, by rw [wrap_i64 (by omega) (by omega)]; rfl⟩
      have : crcE x (s.take (i + 1)) = crcB (crcE x (s.take i)) s[i] := foldl_take_succ _ _ _ _ hlt
      rw [this]; rfl
  · have : i = s.length := by have := toNot h; omega
    subst this
    simp
theorem p_rcrc16 (s : List UInt8) (hs : s.length < 2 ^ 40) : PF Tryz.prog G 97 [.str s] (.int .u16 (crc16 s).toNat) := by
  refine PF.of_body mo Tryz.func97 rfl (by kernel_rfl) (by kernel_rfl) (by simp [Tryz.ntmps97]) ?_; simp only [go_sem, Nat.reduceBEq, Nat.reduceAdd, Nat.reduceMul, Nat.reduceSub, Nat.reduceLeDiff, Int.reduceAdd, Int.reduceSub, Int.reduceMul, Int.reduceLE, Int.reduceLT, Int.reduceEq, Int.reduceNeg, Int.reduceToNat, Int.reduceTDiv, Int.reduceTMod, reduceIte, Nat.reduceEqDiff, Nat.reducePow, Int.reducePow, Tryz.results97]
  refine callK_pf (p_rcrc 0 s hs) (by first | (simp only [go_sem, Nat.reduceBEq, Nat.reduceAdd, Nat.reduceMul, Nat.reduceSub, Nat.reduceLeDiff, Int.reduceAdd, Int.reduceSub, Int.reduceMul, Int.reduceLE, Int.reduceLT, Int.reduceEq, Int.reduceNeg, Int.reduceToNat, Int.reduceTDiv, Int.reduceTMod, reduceIte, Nat.reduceEqDiff, Nat.reducePow, Int.reducePow]; done) | (simp only [go_sem, Nat.reduceBEq, Nat.reduceAdd, Nat.reduceMul, Nat.reduceSub, Nat.reduceLeDiff, Int.reduceAdd, Int.reduceSub, Int.reduceMul, Int.reduceLE, Int.reduceLT, Int.reduceEq, Int.reduceNeg, Int.reduceToNat, Int.reduceTDiv, Int.reduceTMod, reduceIte, Nat.reduceEqDiff, Nat.reducePow, Int.reducePow]; rfl) | rfl) ?_; simp only [go_sem, Nat.reduceBEq, Nat.reduceAdd, Nat.reduceMul, Nat.reduceSub, Nat.reduceLeDiff, Int.reduceAdd, Int.reduceSub, Int.reduceMul, Int.reduceLE, Int.reduceLT, Int.reduceEq, Int.reduceNeg, Int.reduceToNat, Int.reduceTDiv, Int.reduceTMod, reduceIte, Nat.reduceEqDiff, Nat.reducePow, Int.reducePow]
  rfl

/-! A box that is filled from the front -/
def mbox (f : Nat → DV) (z : DV) (W i : Nat) : List AV := (List.range W).map fun j => .d (if j < i then f j else z)
theorem mbox_zero (f : Nat → DV) (z : DV) (W : Nat) : mbox f z W 0 = List.replicate W (.d z) := by
  apply List.ext_getElem
  · simp [mbox]
  · intro i h1 h2; simp [mbox]
theorem mbox_len (f : Nat → DV) (z : DV) (W i : Nat) : (mbox f z W i).length = W := by simp [mbox]
theorem mbox_full (f : Nat → DV) (z : DV) (W : Nat) : mbox f z W W = ((List.range W).map f).map .d := by
  simp only [mbox, List.map_map]
  apply List.map_congr_left
  intro j hj
  simp at hj
  simp [hj]
theorem mbox_set (f : Nat → DV) (z : DV) (W i : Nat) (hi : i < W) : (mbox f z W i).take i ++ [.d (f i)] ++ (mbox f z W i).drop (i + 1) = mbox f z W (i + 1) := by
  apply List.ext_getElem
  · simp [mbox]; omega
  · intro j h1 h2
    simp only [mbox, List.length_map, List.length_range] at h2
    simp only [mbox, List.length_append, List.length_take, List.length_map, List.length_range, List.length_cons, List.length_nil, List.getElem_append, List.getElem_take, List.getElem_map, List.getElem_range, List.getElem_drop]
    have hm : min i W = i := by omega
    simp only [hm]
    split
    · split
      · simp only [show j < i + 1 by omega, if_true]
      · have : j = i := by omega
        subst this
        simp
    · have e1 : i + 1 + (j - (i + (0 + 1))) = j := by omega
      simp only [e1, show ¬ j < i by omega, show ¬ j < i + 1 by omega, if_false]
theorem ltL_mbox (m : Nat) (f : Nat → DV) (z : DV) (W i : Nat) : AV.ltL m (mbox f z W i) = true := ltL_map m _ _
theorem mbox_all (f : Nat → DV) (z : DV) (W i : Nat) (hf : ∀ j, oneD (f j) = true) (hz : oneD z = true) : (mbox f z W i).all oneA = true := by
  simp only [mbox, List.all_eq_true, List.mem_map]
  rintro x ⟨j, _, rfl⟩
  split
  · exact hf j
  · exact hz

theorem ltL_rep (m n : Nat) (x : DV) : AV.ltL m (List.replicate n (.d x)) = true := by
  induction n with
  | zero => rfl
  | succ n ih => rw [List.replicate_succ, AV.ltL, ih]; rfl
/-- The table. -/
def crcT (b : UInt8) : Int := (crcN 8 (b16 b <<< 8)).toNat
def crcF (i : Nat) : DV := .int .u16 (crcT (UInt8.ofNat i))
def crcTab : List DV := (List.range 256).map crcF
theorem crcTab_len : crcTab.length = 256 := by simp [crcTab]
theorem crcTab_all : (crcTab.map AV.d).all oneA = true := by simp [crcTab, crcF, oneA]
theorem rep_drop : (List.replicate 256 (AV.d (DV.int IntKind.u16 0))).drop 256 = [] := List.drop_of_length_le (by rw [List.length_replicate]; exact Nat.le_refl _)
theorem crcTab_take : (crcTab.map AV.d).take 256 = crcTab.map .d := List.take_of_length_le (by rw [List.length_map, crcTab_len]; exact Nat.le_refl _)
theorem crcTab_norm : normDL crcTab = crcTab := by
  rw [normDL_map]
  simp only [crcTab, List.map_map]
  apply List.map_congr_left
  intro j _
  simp [crcF, normD]
theorem crcTab_full : (mbox crcF (.int .u16 0) 256 256).take 256 = crcTab.map .d := by rw [List.take_of_length_le (by rw [mbox_len]; exact Nat.le_refl _), mbox_full]; rfl
theorem p_table : PF Tryz.prog G 119 [.func 120] (.agg crcTab) := by
  refine PF.of_body mo Tryz.func119 rfl (by kernel_rfl) (by kernel_rfl) (by simp [Tryz.ntmps119]) ?_; simp only [go_sem, Nat.reduceBEq, Nat.reduceAdd, Nat.reduceMul, Nat.reduceSub, Nat.reduceLeDiff, Int.reduceAdd, Int.reduceSub, Int.reduceMul, Int.reduceLE, Int.reduceLT, Int.reduceEq, Int.reduceNeg, Int.reduceToNat, Int.reduceTDiv, Int.reduceTMod, reduceIte, Nat.reduceEqDiff, Nat.reducePow, Int.reducePow, Tryz.results119]
  refine wpc_loop Nat (fun i => [(0, .d (.func 120)), (2, .ptr 0 0), (3, .ptr 1 0), (5, .d (.int .i64 i))]) (fun i => [.box (List.replicate 256 (.d (.int .u16 0))), .box (mbox crcF (.int .u16 0) 256 i)]) (fun i => i ≤ 256) (fun i => 256 - i) 0
    (.refl _ _) (fun i hi => ⟨Nat.zero_le _, rfl, by simp only [ltBoxes, ltL_mbox, ltL_rep, Bool.and_true]⟩) (Nat.zero_le _) (by rw [mbox_zero]) ?_ ?_
  · simp only [go_sem, Nat.reduceBEq, Nat.reduceAdd, Nat.reduceMul, Nat.reduceSub, Nat.reduceLeDiff, Int.reduceAdd, Int.reduceSub, Int.reduceMul, Int.reduceLE, Int.reduceLT, Int.reduceEq, Int.reduceNeg, Int.reduceToNat, Int.reduceTDiv, Int.reduceTMod, reduceIte, Nat.reduceEqDiff, Nat.reducePow, Int.reducePow, Int.natCast_zero]
  intro i e hi ⟨g0, g2, g3, g5, _⟩
  simp only [go_sem, Nat.reduceBEq, Nat.reduceAdd, Nat.reduceMul, Nat.reduceSub, Nat.reduceLeDiff, Int.reduceAdd, Int.reduceSub, Int.reduceMul, Int.reduceLE, Int.reduceLT, Int.reduceEq, Int.reduceNeg, Int.reduceToNat, Int.reduceTDiv, Int.reduceTMod, reduceIte, Nat.reduceEqDiff, Nat.reducePow, Int.reducePow, g0, g2, g3, g5]
  (first | with_reducible refine condW_not ?_ ?_ | refine condW_split ?_ ?_) <;> intro h <;> simp only [go_sem, Nat.reduceBEq, Nat.reduceAdd, Nat.reduceMul, Nat.reduceSub, Nat.reduceLeDiff, Int.reduceAdd, Int.reduceSub, Int.reduceMul, Int.reduceLE, Int.reduceLT, Int.reduceEq, Int.reduceNeg, Int.reduceToNat, Int.reduceTDiv, Int.reduceTMod, reduceIte, Nat.reduceEqDiff, Nat.reducePow, Int.reducePow, g0, g2, g3, g5, h]
  · have hlt : i < 256 := by have := toProp h; omega
    have e1 : IntKind.u8.wrap (i : Int) = ((UInt8.ofNat i).toNat : Int) := by rw [wrap_u8, UInt8.toNat_ofNat']; omega
    simp only [go_sem, Nat.reduceBEq, Nat.reduceAdd, Nat.reduceMul, Nat.reduceSub, Nat.reduceLeDiff, Int.reduceAdd, Int.reduceSub, Int.reduceMul, Int.reduceLE, Int.reduceLT, Int.reduceEq, Int.reduceNeg, Int.reduceToNat, Int.reduceTDiv, Int.reduceTMod, reduceIte, Nat.reduceEqDiff, Nat.reducePow, Int.reducePow, g0, g2, g3, g5, e1]
    refine callK_pf (p_direct1 (UInt8.ofNat i)) (by first | (simp only [go_sem, Nat.reduceBEq, Nat.reduceAdd, Nat.reduceMul, Nat.reduceSub, Nat.reduceLeDiff, Int.reduceAdd, Int.reduceSub, Int.reduceMul, Int.reduceLE, Int.reduceLT, Int.reduceEq, Int.reduceNeg, Int.reduceToNat, Int.reduceTDiv, Int.reduceTMod, reduceIte, Nat.reduceEqDiff, Nat.reducePow, Int.reducePow]; done) | (simp only [go_sem, Nat.reduceBEq, Nat.reduceAdd, Nat.reduceMul, Nat.reduceSub, Nat.reduceLeDiff, Int.reduceAdd, Int.reduceSub, Int.reduceMul, Int.reduceLE, Int.reduceLT, Int.reduceEq, Int.reduceNeg, Int.reduceToNat, Int.reduceTDiv, Int.reduceTMod, reduceIte, Nat.reduceEqDiff, Nat.reducePow, Int.reducePow]; rfl) | rfl) ?_; simp only [go_sem, Nat.reduceBEq, Nat.reduceAdd, Nat.reduceMul, Nat.reduceSub, Nat.reduceLeDiff, Int.reduceAdd, Int.reduceSub, Int.reduceMul, Int.reduceLE, Int.reduceLT, Int.reduceEq, Int.reduceNeg, Int.reduceToNat, Int.reduceTDiv, Int.reduceTMod, reduceIte, Nat.reduceEqDiff, Nat.reducePow, Int.reducePow, g0, g2, g3, g5]
    refine ⟨⟨by omega, by omega⟩, by rw [mbox_len]; omega, i + 1, by omega, by omega, ⟨[], ?_⟩, by rw [wrap_i64 (by omega) (by omega)]; rfl⟩
    rw [Nat.mul_one]
    have := mbox_set crcF (.int .u16 0) 256 i hlt
    exact congrArg (fun b => [HO.box (List.replicate 256 (AV.d (DV.int IntKind.u16 0))), HO.box b]) this
  · have : i = 256 := by have := toNot h; omega
    subst this
    simp only [go_sem, Nat.reduceBEq, Nat.reduceAdd, Nat.reduceMul, Nat.reduceSub, Nat.reduceLeDiff, Int.reduceAdd, Int.reduceSub, Int.reduceMul, Int.reduceLE, Int.reduceLT, Int.reduceEq, Int.reduceNeg, Int.reduceToNat, Int.reduceTDiv, Int.reduceTMod, reduceIte, Nat.reduceEqDiff, Nat.reducePow, Int.reducePow, g0, g2, g3, g5, mbox_len, crcTab_full, allD_map, crcTab_len, crcTab_all, rep_drop, crcTab_take, crcTab_norm]
theorem p_direct : PF Tryz.prog G 118 [] (.agg crcTab) := by
  refine PF.of_body mo Tryz.func118 rfl (by kernel_rfl) (by kernel_rfl) (by simp [Tryz.ntmps118]) ?_; simp only [go_sem, Nat.reduceBEq, Nat.reduceAdd, Nat.reduceMul, Nat.reduceSub, Nat.reduceLeDiff, Int.reduceAdd, Int.reduceSub, Int.reduceMul, Int.reduceLE, Int.reduceLT, Int.reduceEq, Int.reduceNeg, Int.reduceToNat, Int.reduceTDiv, Int.reduceTMod, reduceIte, Nat.reduceEqDiff, Nat.reducePow, Int.reducePow, Tryz.results118]
  refine callK_pf (p_table) (by first | (simp only [go_sem, Nat.reduceBEq, Nat.reduceAdd, Nat.reduceMul, Nat.reduceSub, Nat.reduceLeDiff, Int.reduceAdd, Int.reduceSub, Int.reduceMul, Int.reduceLE, Int.reduceLT, Int.reduceEq, Int.reduceNeg, Int.reduceToNat, Int.reduceTDiv, Int.reduceTMod, reduceIte, Nat.reduceEqDiff, Nat.reducePow, Int.reducePow]; done) | (simp only [go_sem, Nat.reduceBEq, Nat.reduceAdd, Nat.reduceMul, Nat.reduceSub, Nat.reduceLeDiff, Int.reduceAdd, Int.reduceSub, Int.reduceMul, Int.reduceLE, Int.reduceLT, Int.reduceEq, Int.reduceNeg, Int.reduceToNat, Int.reduceTDiv, Int.reduceTMod, reduceIte, Nat.reduceEqDiff, Nat.reducePow, Int.reducePow]; rfl) | rfl) ?_; simp only [go_sem, Nat.reduceBEq, Nat.reduceAdd, Nat.reduceMul, Nat.reduceSub, Nat.reduceLeDiff, Int.reduceAdd, Int.reduceSub, Int.reduceMul, Int.reduceLE, Int.reduceLT, Int.reduceEq, Int.reduceNeg, Int.reduceToNat, Int.reduceTDiv, Int.reduceTMod, reduceIte, Nat.reduceEqDiff, Nat.reducePow, Int.reducePow]
  simp only [go_sem, Nat.reduceBEq, Nat.reduceAdd, Nat.reduceMul, Nat.reduceSub, Nat.reduceLeDiff, Int.reduceAdd, Int.reduceSub, Int.reduceMul, Int.reduceLE, Int.reduceLT, Int.reduceEq, Int.reduceNeg, Int.reduceToNat, Int.reduceTDiv, Int.reduceTMod, reduceIte, Nat.reduceEqDiff, Nat.reducePow, Int.reducePow, allD_map, crcTab_len, crcTab_all, rep_drop, crcTab_take, crcTab_norm]
theorem b16_lt (x : W16) (b : UInt8) : bits .xor .u8 (IntKind.u8.wrap ((x.toNat : Int).fdiv (2 ^ 8))) (b.toNat : Int) = (((x >>> 8) ^^^ b16 b).toNat : Int) := by
  have hx := x.isLt
  have hb := b.toNat_lt
  rw [wrap_u8, Int.fdiv_eq_ediv_of_nonneg _ (by decide)]
  rw [show ((x.toNat : Int) / 2 ^ 8 % 256) = ((x.toNat / 256 : Nat) : Int) by omega, u8_xor_nat _ _ (by omega) (by omega), BitVec.toNat_xor, BitVec.toNat_ushiftRight, b16, BitVec.toNat_ofNat, Nat.shiftRight_eq_div_pow]
  rw [Nat.mod_eq_of_lt (show b.toNat < 2 ^ 16 by omega)]
theorem crcB_tab (x : W16) (b : UInt8) (n : Nat) (hn : n = ((x >>> 8) ^^^ b16 b).toNat) : crcB x b = (x <<< 8) ^^^ (crcN 8 (b16 (UInt8.ofNat n) <<< 8)) := by
  have h1 : (x >>> 8) ^^^ b16 b = (x ^^^ (b16 b <<< 8)) >>> 8 := by
    rw [BitVec.ushiftRight_xor_distrib]
    congr 1
    apply BitVec.eq_of_toNat_eq
    have := b.toNat_lt
    simp only [b16, BitVec.toNat_ushiftRight, BitVec.toNat_shiftLeft, BitVec.toNat_ofNat, Nat.shiftRight_eq_div_pow, Nat.shiftLeft_eq]
    omega
  have h3 : crcN 8 ((x ^^^ (b16 b <<< 8)).setWidth 8 |>.setWidth 16) = x <<< 8 := by
    have := crc_low ⟨((x ^^^ (b16 b <<< 8)).setWidth 8).toNat, ((x ^^^ (b16 b <<< 8)).setWidth 8).isLt⟩
    simp only [BitVec.ofNat_toNat] at this
    rw [this]
    apply BitVec.eq_of_getLsbD_eq
    intro i hi
    simp only [BitVec.getLsbD_shiftLeft, BitVec.getLsbD_setWidth, BitVec.getLsbD_xor]
    by_cases h8 : i < 8
    · simp [h8]
    · have : i - 8 < 8 := by omega
      simp [h8, this, show i - 8 < 16 by omega]
  have h4 : b16 (UInt8.ofNat n) = (x ^^^ (b16 b <<< 8)) >>> 8 := by
    apply BitVec.eq_of_toNat_eq
    rw [hn, h1]
    have hl : ((x ^^^ (b16 b <<< 8)) >>> 8).toNat < 256 := by
      have := (x ^^^ (b16 b <<< 8)).isLt
      rw [BitVec.toNat_ushiftRight, Nat.shiftRight_eq_div_pow]
      omega
    rw [b16, BitVec.toNat_ofNat, UInt8.toNat_ofNat', Nat.mod_eq_of_lt (by omega), Nat.mod_eq_of_lt (by omega)]
  rw [h4, crcB, ← h3, ← crcN_xor]
  congr 1
  apply BitVec.eq_of_getLsbD_eq
  intro i hi
  simp only [BitVec.getLsbD_shiftLeft, BitVec.getLsbD_setWidth, BitVec.getLsbD_xor, BitVec.getLsbD_ushiftRight]
  by_cases h8 : i < 8
  · simp [h8, hi]
  · simp [h8, hi, show 8 + (i - 8) = i by omega]
theorem crcTab_get (n : Nat) (h : n < 256) : (crcTab.map AV.d)[n]? = some (.d (.int .u16 (crcT (UInt8.ofNat n)))) := by simp [crcTab, crcF, h]
theorem p_crc (x : W16) (s : List UInt8) (hs : s.length < 2 ^ 40) : PF Tryz.prog G 112 [.int .u16 x.toNat, .str s] (.int .u16 (crcE x s).toNat) := by
  refine PF.of_body mo Tryz.func112 rfl (by kernel_rfl) (by kernel_rfl) (by simp [Tryz.ntmps112]) ?_; simp only [go_sem, Nat.reduceBEq, Nat.reduceAdd, Nat.reduceMul, Nat.reduceSub, Nat.reduceLeDiff, Int.reduceAdd, Int.reduceSub, Int.reduceMul, Int.reduceLE, Int.reduceLT, Int.reduceEq, Int.reduceNeg, Int.reduceToNat, Int.reduceTDiv, Int.reduceTMod, reduceIte, Nat.reduceEqDiff, Nat.reducePow, Int.reducePow, Tryz.results112]
  refine callK_pf (p_direct) (by first | (simp only [go_sem, Nat.reduceBEq, Nat.reduceAdd, Nat.reduceMul, Nat.reduceSub, Nat.reduceLeDiff, Int.reduceAdd, Int.reduceSub, Int.reduceMul, Int.reduceLE, Int.reduceLT, Int.reduceEq, Int.reduceNeg, Int.reduceToNat, Int.reduceTDiv, Int.reduceTMod, reduceIte, Nat.reduceEqDiff, Nat.reducePow, Int.reducePow]; done) | (simp only [go_sem, Nat.reduceBEq, Nat.reduceAdd, Nat.reduceMul, Nat.reduceSub, Nat.reduceLeDiff, Int.reduceAdd, Int.reduceSub, Int.reduceMul, Int.reduceLE, Int.reduceLT, Int.reduceEq, Int.reduceNeg, Int.reduceToNat, Int.reduceTDiv, Int.reduceTMod, reduceIte, Nat.reduceEqDiff, Nat.reducePow, Int.reducePow]; rfl) | rfl) ?_; simp only [go_sem, Nat.reduceBEq, Nat.reduceAdd, Nat.reduceMul, Nat.reduceSub, Nat.reduceLeDiff, Int.reduceAdd, Int.reduceSub, Int.reduceMul, Int.reduceLE, Int.reduceLT, Int.reduceEq, Int.reduceNeg, Int.reduceToNat, Int.reduceTDiv, Int.reduceTMod, reduceIte, Nat.reduceEqDiff, Nat.reducePow, Int.reducePow]
  simp only [go_sem, Nat.reduceBEq, Nat.reduceAdd, Nat.reduceMul, Nat.reduceSub, Nat.reduceLeDiff, Int.reduceAdd, Int.reduceSub, Int.reduceMul, Int.reduceLE, Int.reduceLT, Int.reduceEq, Int.reduceNeg, Int.reduceToNat, Int.reduceTDiv, Int.reduceTMod, reduceIte, Nat.reduceEqDiff, Nat.reducePow, Int.reducePow, allD_map, crcTab_len, crcTab_all, rep_drop, crcTab_take, crcTab_norm]
  refine wpc_loop Nat (fun i => [(0, .d (.int .u16 ((crcE x (s.take i)).toNat : Nat))), (1, .d (.str s)), (5, .ptr 0 0), (9, .d (.int .i64 s.length)), (10, .d (.int .i64 i))]) (fun i => [.box (crcTab.map .d)]) (fun i => i ≤ s.length) (fun i => s.length - i) 0
    (.refl _ _) (fun i hi => ⟨Nat.zero_le _, rfl, by simp only [ltBoxes, Bool.and_true]; exact ltL_map _ id crcTab⟩) (Nat.zero_le _) rfl ?_ ?_
  · simp only [go_sem, Nat.reduceBEq, Nat.reduceAdd, Nat.reduceMul, Nat.reduceSub, Nat.reduceLeDiff, Int.reduceAdd, Int.reduceSub, Int.reduceMul, Int.reduceLE, Int.reduceLT, Int.reduceEq, Int.reduceNeg, Int.reduceToNat, Int.reduceTDiv, Int.reduceTMod, reduceIte, Nat.reduceEqDiff, Nat.reducePow, Int.reducePow, Int.natCast_zero]
    simp [crcE]
  intro i e hi ⟨g0, g1, g5, g9, g10, _⟩
  simp only [go_sem, Nat.reduceBEq, Nat.reduceAdd, Nat.reduceMul, Nat.reduceSub, Nat.reduceLeDiff, Int.reduceAdd, Int.reduceSub, Int.reduceMul, Int.reduceLE, Int.reduceLT, Int.reduceEq, Int.reduceNeg, Int.reduceToNat, Int.reduceTDiv, Int.reduceTMod, reduceIte, Nat.reduceEqDiff, Nat.reducePow, Int.reducePow, g0, g1, g5, g9, g10]
  (first | with_reducible refine condW_not ?_ ?_ | refine condW_split ?_ ?_) <;> intro h <;> simp only [go_sem, Nat.reduceBEq, Nat.reduceAdd, Nat.reduceMul, Nat.reduceSub, Nat.reduceLeDiff, Int.reduceAdd, Int.reduceSub, Int.reduceMul, Int.reduceLE, Int.reduceLT, Int.reduceEq, Int.reduceNeg, Int.reduceToNat, Int.reduceTDiv, Int.reduceTMod, reduceIte, Nat.reduceEqDiff, Nat.reducePow, Int.reducePow, g0, g1, g5, g9, g10, h]
  · have hlt : i < s.length := by have := toProp h; omega
    refine ⟨⟨by omega, hlt⟩, ?_⟩
    have hb := b16_lt (crcE x (s.take i)) s[i]
    rw [show (2 : Int) ^ 8 = 256 from rfl] at hb
    have hn : ((crcE x (s.take i) >>> 8) ^^^ b16 s[i]).toNat < 256 := by
      have h1 := (crcE x (s.take i)).isLt
      have h2 := s[i].toNat_lt
      rw [BitVec.toNat_xor]
      refine Nat.xor_lt_two_pow (n := 8) ?_ ?_
      · rw [BitVec.toNat_ushiftRight, Nat.shiftRight_eq_div_pow]; omega
      · rw [b16, BitVec.toNat_ofNat]; omega
    rw [hb]
    refine ⟨⟨by omega, by omega⟩, ?_⟩
    simp only [go_sem, Nat.reduceBEq, Nat.reduceAdd, Nat.reduceMul, Nat.reduceSub, Nat.reduceLeDiff, Int.reduceAdd, Int.reduceSub, Int.reduceMul, Int.reduceLE, Int.reduceLT, Int.reduceEq, Int.reduceNeg, Int.reduceToNat, Int.reduceTDiv, Int.reduceTMod, reduceIte, Nat.reduceEqDiff, Nat.reducePow, Int.reducePow, g0, g1, g5, g9, g10, crcTab_get _ hn, Nat.mul_one, crcT, shl8_16, xor16]
    refine ⟨i + 1, by omega, by omega, ⟨_, rfl⟩, ?_, by rw [wrap_i64 (by omega) (by omega)]; rfl⟩
    have e1 : crcE x (s.take (i + 1)) = crcB (crcE x (s.take i)) s[i] := foldl_take_succ _ _ _ _ hlt
    rw [e1, crcB_tab _ _ _ rfl]
  · have : i = s.length := by have := toNot h; omega
    subst this
    simp
theorem p_crc16 (s : List UInt8) (hs : s.length < 2 ^ 40) : PF Tryz.prog G 95 [.str s] (.int .u16 (crc16 s).toNat) := by
  refine PF.of_body mo Tryz.func95 rfl (by kernel_rfl) (by kernel_rfl) (by simp [Tryz.ntmps95]) ?_; simp only [go_sem, Nat.reduceBEq, Nat.reduceAdd, Nat.reduceMul, Nat.reduceSub, Nat.reduceLeDiff, Int.reduceAdd, Int.reduceSub, Int.reduceMul, Int.reduceLE, Int.reduceLT, Int.reduceEq, Int.reduceNeg, Int.reduceToNat, Int.reduceTDiv, Int.reduceTMod, reduceIte, Nat.reduceEqDiff, Nat.reducePow, Int.reducePow, Tryz.results95]
  refine callK_pf (p_crc 0 s hs) (by first | (simp only [go_sem, Nat.reduceBEq, Nat.reduceAdd, Nat.reduceMul, Nat.reduceSub, Nat.reduceLeDiff, Int.reduceAdd, Int.reduceSub, Int.reduceMul, Int.reduceLE, Int.reduceLT, Int.reduceEq, Int.reduceNeg, Int.reduceToNat, Int.reduceTDiv, Int.reduceTMod, reduceIte, Nat.reduceEqDiff, Nat.reducePow, Int.reducePow]; done) | (simp only [go_sem, Nat.reduceBEq, Nat.reduceAdd, Nat.reduceMul, Nat.reduceSub, Nat.reduceLeDiff, Int.reduceAdd, Int.reduceSub, Int.reduceMul, Int.reduceLE, Int.reduceLT, Int.reduceEq, Int.reduceNeg, Int.reduceToNat, Int.reduceTDiv, Int.reduceTMod, reduceIte, Nat.reduceEqDiff, Nat.reducePow, Int.reducePow]; rfl) | rfl) ?_; simp only [go_sem, Nat.reduceBEq, Nat.reduceAdd, Nat.reduceMul, Nat.reduceSub, Nat.reduceLeDiff, Int.reduceAdd, Int.reduceSub, Int.reduceMul, Int.reduceLE, Int.reduceLT, Int.reduceEq, Int.reduceNeg, Int.reduceToNat, Int.reduceTDiv, Int.reduceTMod, reduceIte, Nat.reduceEqDiff, Nat.reducePow, Int.reducePow]
  rfl
end Go.Proofs.YtjmldlknegbimaaGreatDoor.Sx
