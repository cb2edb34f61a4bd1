/- Compressed Unicode read: udfstring.Expand. -/
import Derived.Test.YtjmldlknegbimaaGreatDoorB23
import Derived.Test.YtjmldlknegbimaaGreatDoorB18
set_option linter.unusedVariables false
set_option linter.unusedSimpArgs false
namespace Go.Proofs.YtjmldlknegbimaaGreatDoor.Sx
open Go Go.RowKit
variable {G : Gl}
theorem byteB (k : Int) (h0 : 0 ≤ k) (h1 : k < 256) : ((UInt8.ofNat (IntKind.u8.wrap k).toNat).toNat : Int) = k := by
  rw [IntKind.wrap_u8, Int.emod_eq_of_lt h0 h1]
  simp
  omega
theorem runeRow (c : Int) (h : charB c = true) : RuneRow c (encC c) := by
  simp only [charB, Bool.and_eq_true, Bool.or_eq_true, decide_eq_true_eq] at h
  refine ⟨by omega, by omega, by omega, ?_⟩
  unfold encC
  simp only [Lib.byteCells]
  split
  · rw [Lib.runeCells, Lib.encodeRuneZ_one (by omega) (by omega)]
    simp only [List.map_cons, List.map_nil, byteB c (by omega) (by omega)]
  · split
    · rw [Lib.runeCells, Lib.encodeRuneZ_two (by omega) (by omega)]
      simp only [List.map_cons, List.map_nil, Int.tdiv_eq_ediv_of_nonneg (show 0 ≤ c by omega), Int.tmod_eq_emod_of_nonneg (show 0 ≤ c by omega)]
      rw [byteB _ (by omega) (by omega), byteB _ (by omega) (by omega)]
    · rw [Lib.runeCells, Lib.encodeRuneZ_three (by omega)]
      have h64 : 0 ≤ c / 64 := by omega
      simp only [List.map_cons, List.map_nil, Int.tdiv_eq_ediv_of_nonneg (show 0 ≤ c by omega), Int.tmod_eq_emod_of_nonneg (show 0 ≤ c by omega), Int.tmod_eq_emod_of_nonneg h64]
      rw [byteB _ (by omega) (by omega), byteB _ (by omega) (by omega), byteB _ (by omega) (by omega)]
theorem encC_len (c : Int) : 1 ≤ (encC c).length ∧ (encC c).length ≤ 3 := by
  unfold encC
  simp only []
  split
  · simp
  · split <;> simp
theorem p_uchar (c : Int) : PF Tryz.prog G 73 [.int .i32 c] (.bool (charB c)) := by
  refine PF.of_body mo Tryz.func73 rfl (by kernel_rfl) (by kernel_rfl) (by simp [Tryz.ntmps73]) ?_; simp only [go_sem, Nat.reduceBEq, Nat.reduceAdd, Nat.reduceMul, Nat.reduceSub, Nat.reduceLeDiff, Int.reduceAdd, Int.reduceSub, Int.reduceMul, Int.reduceLE, Int.reduceLT, Int.reduceEq, Int.reduceNeg, Int.reduceToNat, Int.reduceTDiv, Int.reduceTMod, reduceIte, Nat.reduceEqDiff, Nat.reducePow, Int.reducePow, Tryz.results73]
  (first | with_reducible refine gO_not ?_ ?_ | with_reducible refine gT_not ?_ ?_ | refine gO_split ?_ ?_ | refine gT_split ?_ ?_) <;> intro h1 <;> simp only [go_sem, Nat.reduceBEq, Nat.reduceAdd, Nat.reduceMul, Nat.reduceSub, Nat.reduceLeDiff, Int.reduceAdd, Int.reduceSub, Int.reduceMul, Int.reduceLE, Int.reduceLT, Int.reduceEq, Int.reduceNeg, Int.reduceToNat, Int.reduceTDiv, Int.reduceTMod, reduceIte, Nat.reduceEqDiff, Nat.reducePow, Int.reducePow, h1]
  · (first | with_reducible refine gO_not ?_ ?_ | with_reducible refine gT_not ?_ ?_ | refine gO_split ?_ ?_ | refine gT_split ?_ ?_) <;> intro h2 <;> simp only [go_sem, Nat.reduceBEq, Nat.reduceAdd, Nat.reduceMul, Nat.reduceSub, Nat.reduceLeDiff, Int.reduceAdd, Int.reduceSub, Int.reduceMul, Int.reduceLE, Int.reduceLT, Int.reduceEq, Int.reduceNeg, Int.reduceToNat, Int.reduceTDiv, Int.reduceTMod, reduceIte, Nat.reduceEqDiff, Nat.reducePow, Int.reducePow, h2]
    · (first | with_reducible refine gO_not ?_ ?_ | with_reducible refine gT_not ?_ ?_ | refine gO_split ?_ ?_ | refine gT_split ?_ ?_) <;> intro h3 <;> simp only [go_sem, Nat.reduceBEq, Nat.reduceAdd, Nat.reduceMul, Nat.reduceSub, Nat.reduceLeDiff, Int.reduceAdd, Int.reduceSub, Int.reduceMul, Int.reduceLE, Int.reduceLT, Int.reduceEq, Int.reduceNeg, Int.reduceToNat, Int.reduceTDiv, Int.reduceTMod, reduceIte, Nat.reduceEqDiff, Nat.reducePow, Int.reducePow, h3]
      · simp [charB, h1, h2, h3]
      · simp [charB, h1, h2, h3]
    · simp [charB, h1, h2]
  · simp [charB, h1]
theorem i32_or_nat (a b : Nat) (ha : a < 2147483648) (hb : b < 2147483648) : bits .or .i32 (a : Int) (b : Int) = ((a ||| b : Nat) : Int) := by
  have hx : a ||| b < 2 ^ 31 := Nat.or_lt_two_pow (by omega) (by omega)
  show IntKind.i32.wrap ((BitVec.ofInt 32 (a : Int) ||| BitVec.ofInt 32 (b : Int)).toNat : Int) = _
  have e : ∀ n : Nat, n < 2 ^ 32 → (BitVec.ofInt 32 (n : Int)).toNat = n := fun n hn => by simp; omega
  rw [BitVec.toNat_or, e a (by omega), e b (by omega), wrap_i32 (by omega) (by omega)]
theorem or32 (a : Nat) (b : UInt8) (ha : a < 256) : bits .or .i32 (IntKind.i32.wrap ((a : Int) * 2 ^ 8)) (b.toNat : Int) = ((256 * a + b.toNat : Nat) : Int) := by
  have hb := b.toNat_lt
  rw [show ((a : Int) * 2 ^ 8) = ((a * 2 ^ 8 : Nat) : Int) by simp, wrap_i32 (by omega) (by omega), i32_or_nat _ _ (by omega) (by omega)]
  congr 1
  have := Nat.shiftLeft_add_eq_or_of_lt (show b.toNat < 2 ^ 8 by omega) a
  rw [Nat.shiftLeft_eq] at this
  omega
/-- The width of a unit, the units, what they are as UTF-8. -/
def headU (s : List UInt8) : Nat := (s.getD 0 0).toNat
def widthU (s : List UInt8) : Nat := if headU s = 16 then 2 else 1
def accU (l : List UInt8) : Nat := l.foldl (fun a b => 256 * a + b.toNat) 0
theorem accU_app (l : List UInt8) (b : UInt8) : accU (l ++ [b]) = 256 * accU l + b.toNat := by simp [accU]
theorem accU_lt (l : List UInt8) (h : l.length ≤ 1) : accU l < 256 := by
  rcases l with _ | ⟨a, _ | ⟨b, r⟩⟩
  · simp [accU]
  · have := a.toNat_lt; simp [accU]; omega
  · simp at h
def unitU (s : List UInt8) (j : Nat) : Nat := accU ((s.drop (1 + widthU s * j)).take (widthU s))
def countU (s : List UInt8) : Nat := (s.length - 1) / widthU s
def badU (s : List UInt8) : Bool := decide (headU s ≠ 8 ∧ headU s ≠ 16) || decide (headU s = 16 ∧ s.length % 2 = 0)
def textU (s : List UInt8) (j : Nat) : List UInt8 := ((List.range j).map fun k => encC (unitU s k)).flatten
def expV (s : List UInt8) : DV :=
  if decide (65536 < (s.length : Int)) = true then .tup [.str [], .int .i64 7]
  else if s = [] then .tup [.str [], .int .i64 0]
  else if badU s = true then .tup [.str [], .int .i64 3]
  else if ((List.range (countU s)).all fun j => charB (unitU s j)) = true then .tup [.str (textU s (countU s)), .int .i64 0] else .tup [.str [], .int .i64 2]
theorem textU_succ (s : List UInt8) (j : Nat) : textU s (j + 1) = textU s j ++ encC (unitU s j) := by simp [textU, List.range_succ]
theorem textU_len (s : List UInt8) (j : Nat) : (textU s j).length ≤ 3 * j := by
  induction j with
  | zero => simp [textU]
  | succ j ih => rw [textU_succ, List.length_append]; have := (encC_len (unitU s j)).2; omega
theorem headU_eq (s : List UInt8) (h : 0 < s.length) : (s[0].toNat : Int) = headU s := by simp [headU, List.getD_eq_getElem?_getD, h]
/-- Behind the head: the units, read and written. -/
theorem expand_ok (s : List UInt8) (W : Nat) (hW : widthU s = W) (hl : s.length ≤ 65536) (hs : s ≠ []) (hb : badU s = false) : 1 + W * countU s = s.length ∧ 1 ≤ W ∧ W ≤ 2 := by
  have h0 : s.length ≠ 0 := by simpa using hs
  subst hW
  unfold badU at hb
  simp only [Bool.or_eq_false_iff, decide_eq_false_iff_not] at hb
  unfold countU widthU
  split
  · omega
  · omega
set_option maxRecDepth 8000 in
theorem p_expand (s : List UInt8) : PF Tryz.prog G 42 [.str s] (expV s) := by
  refine PF.of_body mo Tryz.func42 rfl (by kernel_rfl) (by kernel_rfl) (by simp [Tryz.ntmps42]) ?_; simp only [go_sem, Nat.reduceBEq, Nat.reduceAdd, Nat.reduceMul, Nat.reduceSub, Nat.reduceLeDiff, Int.reduceAdd, Int.reduceSub, Int.reduceMul, Int.reduceLE, Int.reduceLT, Int.reduceEq, Int.reduceNeg, Int.reduceToNat, Int.reduceTDiv, Int.reduceTMod, reduceIte, Nat.reduceEqDiff, Nat.reducePow, Int.reducePow, Tryz.results42]
  (first | with_reducible refine condW_not ?_ ?_ | refine condW_split ?_ ?_) <;> intro h1 <;> simp only [go_sem, Nat.reduceBEq, Nat.reduceAdd, Nat.reduceMul, Nat.reduceSub, Nat.reduceLeDiff, Int.reduceAdd, Int.reduceSub, Int.reduceMul, Int.reduceLE, Int.reduceLT, Int.reduceEq, Int.reduceNeg, Int.reduceToNat, Int.reduceTDiv, Int.reduceTMod, reduceIte, Nat.reduceEqDiff, Nat.reducePow, Int.reducePow, h1]
  · rw [expV, if_pos h1]
  · have hl := toNot h1
    (first | with_reducible refine condW_not ?_ ?_ | refine condW_split ?_ ?_) <;> intro h2 <;> simp only [go_sem, Nat.reduceBEq, Nat.reduceAdd, Nat.reduceMul, Nat.reduceSub, Nat.reduceLeDiff, Int.reduceAdd, Int.reduceSub, Int.reduceMul, Int.reduceLE, Int.reduceLT, Int.reduceEq, Int.reduceNeg, Int.reduceToNat, Int.reduceTDiv, Int.reduceTMod, reduceIte, Nat.reduceEqDiff, Nat.reducePow, Int.reducePow, h2]
    · have hs : s = [] := by simpa using h2
      rw [expV, if_neg (by rw [h1]; decide), if_pos hs]
    · have hs : s ≠ [] := by intro hc; rw [hc] at h2; simp at h2
      have h0 : 0 < s.length := List.length_pos_iff.2 hs
      have hx := headU_eq s h0
      have hmod : (s.length : Int).tmod 2 = ((s.length % 2 : Nat) : Int) := by rw [Int.tmod_eq_emod_of_nonneg (by omega)]; omega
      have hv : expV s = if badU s = true then .tup [.str [], .int .i64 3] else if ((List.range (countU s)).all fun j => charB (unitU s j)) = true then .tup [.str (textU s (countU s)), .int .i64 0] else .tup [.str [], .int .i64 2] := by
        rw [expV, if_neg (by rw [h1]; decide), if_neg hs]
      rw [hv]
      have hc : headU s = 8 ∨ headU s = 16 ∨ (headU s ≠ 8 ∧ headU s ≠ 16) := by omega
      rcases hc with hc | hc | ⟨hc1, hc2⟩
      · have q8 : decide ((s[0].toNat : Int) = 8) = true := by rw [hx, hc]; rfl
        have q16 : decide ((s[0].toNat : Int) = 16) = false := by rw [hx, hc]; rfl
        have hW : widthU s = 1 := by simp [widthU, hc]
        have hb : badU s = false := by simp [badU, hc]
        refine ⟨h0, ?_⟩
        simp only [go_sem, Nat.reduceBEq, Nat.reduceAdd, Nat.reduceMul, Nat.reduceSub, Nat.reduceLeDiff, Int.reduceAdd, Int.reduceSub, Int.reduceMul, Int.reduceLE, Int.reduceLT, Int.reduceEq, Int.reduceNeg, Int.reduceToNat, Int.reduceTDiv, Int.reduceTMod, reduceIte, Nat.reduceEqDiff, Nat.reducePow, Int.reducePow, q8, q16, hmod]
        obtain ⟨hct, _, _⟩ := expand_ok s 1 hW (by omega) hs hb
        rw [hb, if_neg (by decide)]
        have e4 : IntKind.i64.wrap ((s[0].toNat : Int).tdiv 8) = 1 := by rw [hx, hc]; rfl
        refine ⟨h0, h0, ?_⟩
        refine wpc_loop Nat (fun j => [(0, .d (.str s)), (4, .d (.int .i64 1)), (5, .ptr 0 0), (6, .d (.int .i64 (1 + 1 * j : Nat)))]) (fun j => [.bld 73 5 (textU s j)])
          (fun j => j ≤ countU s ∧ ∀ k, k < j → charB (unitU s k) = true) (fun j => countU s - j) 0
          (.refl _ _) (fun i hi => ⟨Nat.zero_le _, rfl, rfl⟩) ⟨Nat.zero_le _, fun k hk => by omega⟩ rfl ?_ ?_
        · simp only [go_sem, Nat.reduceBEq, Nat.reduceAdd, Nat.reduceMul, Nat.reduceSub, Nat.reduceLeDiff, Int.reduceAdd, Int.reduceSub, Int.reduceMul, Int.reduceLE, Int.reduceLT, Int.reduceEq, Int.reduceNeg, Int.reduceToNat, Int.reduceTDiv, Int.reduceTMod, reduceIte, Nat.reduceEqDiff, Nat.reducePow, Int.reducePow, q8, q16, hmod, e4]
          rfl
        intro j e ⟨hj, ha⟩ ⟨g0, g4, g5, g6, _⟩
        simp only [go_sem, Nat.reduceBEq, Nat.reduceAdd, Nat.reduceMul, Nat.reduceSub, Nat.reduceLeDiff, Int.reduceAdd, Int.reduceSub, Int.reduceMul, Int.reduceLE, Int.reduceLT, Int.reduceEq, Int.reduceNeg, Int.reduceToNat, Int.reduceTDiv, Int.reduceTMod, reduceIte, Nat.reduceEqDiff, Nat.reducePow, Int.reducePow, g0, g4, g5, g6]
        (first | with_reducible refine condW_not ?_ ?_ | refine condW_split ?_ ?_) <;> intro h5 <;> simp only [go_sem, Nat.reduceBEq, Nat.reduceAdd, Nat.reduceMul, Nat.reduceSub, Nat.reduceLeDiff, Int.reduceAdd, Int.reduceSub, Int.reduceMul, Int.reduceLE, Int.reduceLT, Int.reduceEq, Int.reduceNeg, Int.reduceToNat, Int.reduceTDiv, Int.reduceTMod, reduceIte, Nat.reduceEqDiff, Nat.reducePow, Int.reducePow, g0, g4, g5, g6, h5]
        · have hlt : j < countU s := by have := toProp h5; omega
          have w1 : IntKind.i64.wrap (((1 + 1 * j : Nat) : Int) + 1) = ((1 + 1 * (j + 1) : Nat) : Int) := by rw [wrap_i64 (by omega) (by omega)]; omega
          simp only [go_sem, Nat.reduceBEq, Nat.reduceAdd, Nat.reduceMul, Nat.reduceSub, Nat.reduceLeDiff, Int.reduceAdd, Int.reduceSub, Int.reduceMul, Int.reduceLE, Int.reduceLT, Int.reduceEq, Int.reduceNeg, Int.reduceToNat, Int.reduceTDiv, Int.reduceTMod, reduceIte, Nat.reduceEqDiff, Nat.reducePow, Int.reducePow, g0, g4, g5, g6, w1]
          obtain ⟨bs, hbs⟩ : ∃ bs, (s.take (1 + 1 * (j + 1))).drop (1 + 1 * j) = bs := ⟨_, rfl⟩
          have hbl : bs.length = 1 := by rw [← hbs]; simp; omega
          have hun : accU bs = unitU s j := by rw [unitU, hW, ← hbs, List.drop_take]; congr 2; omega
          refine ⟨⟨by omega, by omega, by omega⟩, ?_⟩
          rw [hbs]
          refine wpc_loop Nat (fun k => [(0, .d (.str s)), (4, .d (.int .i64 1)), (5, .ptr 0 0), (6, .d (.int .i64 (1 + 1 * j : Nat))), (7, .d (.int .i32 (accU (bs.take k)))), (54, .d (.sl .any (bs.map byteEl))), (55, .d (.int .i64 bs.length)), (56, .d (.int .i64 k))])
            (fun k => [.bld 73 5 (textU s j)]) (fun k => k ≤ bs.length) (fun k => bs.length - k) 0 (.refl _ _) (fun i hi => ⟨Nat.zero_le _, rfl, rfl⟩) (Nat.zero_le _) rfl ?_ ?_
          · simp only [go_sem, Nat.reduceBEq, Nat.reduceAdd, Nat.reduceMul, Nat.reduceSub, Nat.reduceLeDiff, Int.reduceAdd, Int.reduceSub, Int.reduceMul, Int.reduceLE, Int.reduceLT, Int.reduceEq, Int.reduceNeg, Int.reduceToNat, Int.reduceTDiv, Int.reduceTMod, reduceIte, Nat.reduceEqDiff, Nat.reducePow, Int.reducePow, g0, g4, g5, g6, w1]
            exact ⟨rfl, rfl⟩
          intro k e2 hk ⟨k0, k4, k5, k6, k7, k54, k55, k56, _⟩
          simp only [go_sem, Nat.reduceBEq, Nat.reduceAdd, Nat.reduceMul, Nat.reduceSub, Nat.reduceLeDiff, Int.reduceAdd, Int.reduceSub, Int.reduceMul, Int.reduceLE, Int.reduceLT, Int.reduceEq, Int.reduceNeg, Int.reduceToNat, Int.reduceTDiv, Int.reduceTMod, reduceIte, Nat.reduceEqDiff, Nat.reducePow, Int.reducePow, k0, k4, k5, k6, k7, k54, k55, k56]
          (first | with_reducible refine condW_not ?_ ?_ | refine condW_split ?_ ?_) <;> intro h6 <;> simp only [go_sem, Nat.reduceBEq, Nat.reduceAdd, Nat.reduceMul, Nat.reduceSub, Nat.reduceLeDiff, Int.reduceAdd, Int.reduceSub, Int.reduceMul, Int.reduceLE, Int.reduceLT, Int.reduceEq, Int.reduceNeg, Int.reduceToNat, Int.reduceTDiv, Int.reduceTMod, reduceIte, Nat.reduceEqDiff, Nat.reducePow, Int.reducePow, k0, k4, k5, k6, k7, k54, k55, k56, h6]
          · have hkl : k < bs.length := by have := toProp h6; omega
            have hacc := accU_lt (bs.take k) (by simp; omega)
            have q := or32 (accU (bs.take k)) bs[k] hacc
            refine ⟨⟨by omega, by omega⟩, ?_⟩
            simp only [go_sem, Nat.reduceBEq, Nat.reduceAdd, Nat.reduceMul, Nat.reduceSub, Nat.reduceLeDiff, Int.reduceAdd, Int.reduceSub, Int.reduceMul, Int.reduceLE, Int.reduceLT, Int.reduceEq, Int.reduceNeg, Int.reduceToNat, Int.reduceTDiv, Int.reduceTMod, reduceIte, Nat.reduceEqDiff, Nat.reducePow, Int.reducePow, k0, k4, k5, k6, k7, k54, k55, k56, byteEl]
            refine ⟨k + 1, by omega, by omega, ⟨_, rfl⟩, ?_, by rw [wrap_i64 (by omega) (by omega)]; rfl⟩
            rw [List.take_succ_eq_append_getElem hkl, accU_app]
            exact congrArg (fun (n : Int) => AV.d (DV.int .i32 n)) q
          · have hkl : k = bs.length := by have := toNot h6; omega
            subst hkl
            rw [List.take_length, hun] at k7
            rw [List.take_length, hun]
            refine callK_pf (p_uchar (unitU s j)) (by first | (simp only [go_sem, Nat.reduceBEq, Nat.reduceAdd, Nat.reduceMul, Nat.reduceSub, Nat.reduceLeDiff, Int.reduceAdd, Int.reduceSub, Int.reduceMul, Int.reduceLE, Int.reduceLT, Int.reduceEq, Int.reduceNeg, Int.reduceToNat, Int.reduceTDiv, Int.reduceTMod, reduceIte, Nat.reduceEqDiff, Nat.reducePow, Int.reducePow]; done) | (simp only [go_sem, Nat.reduceBEq, Nat.reduceAdd, Nat.reduceMul, Nat.reduceSub, Nat.reduceLeDiff, Int.reduceAdd, Int.reduceSub, Int.reduceMul, Int.reduceLE, Int.reduceLT, Int.reduceEq, Int.reduceNeg, Int.reduceToNat, Int.reduceTDiv, Int.reduceTMod, reduceIte, Nat.reduceEqDiff, Nat.reducePow, Int.reducePow]; rfl) | rfl) ?_; simp only [go_sem, Nat.reduceBEq, Nat.reduceAdd, Nat.reduceMul, Nat.reduceSub, Nat.reduceLeDiff, Int.reduceAdd, Int.reduceSub, Int.reduceMul, Int.reduceLE, Int.reduceLT, Int.reduceEq, Int.reduceNeg, Int.reduceToNat, Int.reduceTDiv, Int.reduceTMod, reduceIte, Nat.reduceEqDiff, Nat.reducePow, Int.reducePow, k0, k4, k5, k6, k7, k54, k55, k56, w1]
            (first | with_reducible refine condW_not ?_ ?_ | refine condW_split ?_ ?_) <;> intro h7 <;> simp only [go_sem, Nat.reduceBEq, Nat.reduceAdd, Nat.reduceMul, Nat.reduceSub, Nat.reduceLeDiff, Int.reduceAdd, Int.reduceSub, Int.reduceMul, Int.reduceLE, Int.reduceLT, Int.reduceEq, Int.reduceNeg, Int.reduceToNat, Int.reduceTDiv, Int.reduceTMod, reduceIte, Nat.reduceEqDiff, Nat.reducePow, Int.reducePow, k0, k4, k5, k6, k7, k54, k55, k56, w1, h7]
            · have hall : ((List.range (countU s)).all fun j => charB (unitU s j)) = false := range_all_no _ _ _ hlt h7
              rw [hall, if_neg (by decide)]
            · have htl := textU_len s j
              have hwf := f_brune (G := G) (H := [.bld 73 5 (textU s j)]) (id := 0) (l := textU s j) (runeRow _ h7) rfl (by omega)
              refine callK_fn hwf (by simp only [go_sem, Nat.reduceBEq, Nat.reduceAdd, Nat.reduceMul, Nat.reduceSub, Nat.reduceLeDiff, Int.reduceAdd, Int.reduceSub, Int.reduceMul, Int.reduceLE, Int.reduceLT, Int.reduceEq, Int.reduceNeg, Int.reduceToNat, Int.reduceTDiv, Int.reduceTMod, reduceIte, Nat.reduceEqDiff, Nat.reducePow, Int.reducePow, k0, k4, k5, k6, k7, k54, k55, k56, w1]) ?_
              simp only [go_sem, Nat.reduceBEq, Nat.reduceAdd, Nat.reduceMul, Nat.reduceSub, Nat.reduceLeDiff, Int.reduceAdd, Int.reduceSub, Int.reduceMul, Int.reduceLE, Int.reduceLT, Int.reduceEq, Int.reduceNeg, Int.reduceToNat, Int.reduceTDiv, Int.reduceTMod, reduceIte, Nat.reduceEqDiff, Nat.reducePow, Int.reducePow, k0, k4, k5, k6, k7, k54, k55, k56, w1]
              refine ⟨j + 1, ⟨by omega, fun k hk => ?_⟩, by omega, ⟨_, by rw [textU_succ]⟩, rfl⟩
              rcases Nat.lt_or_ge k j with h8 | h8
              · exact ha k h8
              · have : k = j := by omega
                subst this; exact h7
        · have hjc : j = countU s := by have := toNot h5; omega
          subst hjc
          have hall : ((List.range (countU s)).all fun j => charB (unitU s j)) = true := by
            rw [List.all_eq_true]; intro k hk; exact ha k (by simpa using hk)
          rw [hall, if_pos rfl]
          refine callK_fn (f_bstring (id := 0) rfl) (by simp only [go_sem, Nat.reduceBEq, Nat.reduceAdd, Nat.reduceMul, Nat.reduceSub, Nat.reduceLeDiff, Int.reduceAdd, Int.reduceSub, Int.reduceMul, Int.reduceLE, Int.reduceLT, Int.reduceEq, Int.reduceNeg, Int.reduceToNat, Int.reduceTDiv, Int.reduceTMod, reduceIte, Nat.reduceEqDiff, Nat.reducePow, Int.reducePow, g0, g4, g5, g6]) ?_
          simp only [go_sem, Nat.reduceBEq, Nat.reduceAdd, Nat.reduceMul, Nat.reduceSub, Nat.reduceLeDiff, Int.reduceAdd, Int.reduceSub, Int.reduceMul, Int.reduceLE, Int.reduceLT, Int.reduceEq, Int.reduceNeg, Int.reduceToNat, Int.reduceTDiv, Int.reduceTMod, reduceIte, Nat.reduceEqDiff, Nat.reducePow, Int.reducePow, g0, g4, g5, g6]
      · have q8 : decide ((s[0].toNat : Int) = 8) = false := by rw [hx, hc]; rfl
        have q16 : decide ((s[0].toNat : Int) = 16) = true := by rw [hx, hc]; rfl
        have hW : widthU s = 2 := by simp [widthU, hc]
        by_cases hev : s.length % 2 = 0
        · have hb : badU s = true := by simp [badU, hc, hev]
          rw [hb, if_pos rfl]
          have q2 : decide (((s.length % 2 : Nat) : Int) = 0) = true := by rw [hev]; rfl
          refine ⟨h0, ?_⟩
          simp only [go_sem, Nat.reduceBEq, Nat.reduceAdd, Nat.reduceMul, Nat.reduceSub, Nat.reduceLeDiff, Int.reduceAdd, Int.reduceSub, Int.reduceMul, Int.reduceLE, Int.reduceLT, Int.reduceEq, Int.reduceNeg, Int.reduceToNat, Int.reduceTDiv, Int.reduceTMod, reduceIte, Nat.reduceEqDiff, Nat.reducePow, Int.reducePow, q8, q16, hmod, q2]
          first | exact h0 | exact ⟨h0, h0⟩ | exact ⟨h0, h0, rfl⟩
        have hb : badU s = false := by simp [badU, hc, hev]
        have q2 : decide (((s.length % 2 : Nat) : Int) = 0) = false := by simp; omega
        refine ⟨h0, ?_⟩
        simp only [go_sem, Nat.reduceBEq, Nat.reduceAdd, Nat.reduceMul, Nat.reduceSub, Nat.reduceLeDiff, Int.reduceAdd, Int.reduceSub, Int.reduceMul, Int.reduceLE, Int.reduceLT, Int.reduceEq, Int.reduceNeg, Int.reduceToNat, Int.reduceTDiv, Int.reduceTMod, reduceIte, Nat.reduceEqDiff, Nat.reducePow, Int.reducePow, q8, q16, hmod, q2]
        refine ⟨h0, ?_⟩
        obtain ⟨hct, _, _⟩ := expand_ok s 2 hW (by omega) hs hb
        rw [hb, if_neg (by decide)]
        have e4 : IntKind.i64.wrap ((s[0].toNat : Int).tdiv 8) = 2 := by rw [hx, hc]; rfl
        refine ⟨h0, h0, ?_⟩
        refine wpc_loop Nat (fun j => [(0, .d (.str s)), (4, .d (.int .i64 2)), (5, .ptr 0 0), (6, .d (.int .i64 (1 + 2 * j : Nat)))]) (fun j => [.bld 73 5 (textU s j)])
          (fun j => j ≤ countU s ∧ ∀ k, k < j → charB (unitU s k) = true) (fun j => countU s - j) 0
          (.refl _ _) (fun i hi => ⟨Nat.zero_le _, rfl, rfl⟩) ⟨Nat.zero_le _, fun k hk => by omega⟩ rfl ?_ ?_
        · simp only [go_sem, Nat.reduceBEq, Nat.reduceAdd, Nat.reduceMul, Nat.reduceSub, Nat.reduceLeDiff, Int.reduceAdd, Int.reduceSub, Int.reduceMul, Int.reduceLE, Int.reduceLT, Int.reduceEq, Int.reduceNeg, Int.reduceToNat, Int.reduceTDiv, Int.reduceTMod, reduceIte, Nat.reduceEqDiff, Nat.reducePow, Int.reducePow, q8, q16, hmod, q2, e4]
          rfl
        intro j e ⟨hj, ha⟩ ⟨g0, g4, g5, g6, _⟩
        simp only [go_sem, Nat.reduceBEq, Nat.reduceAdd, Nat.reduceMul, Nat.reduceSub, Nat.reduceLeDiff, Int.reduceAdd, Int.reduceSub, Int.reduceMul, Int.reduceLE, Int.reduceLT, Int.reduceEq, Int.reduceNeg, Int.reduceToNat, Int.reduceTDiv, Int.reduceTMod, reduceIte, Nat.reduceEqDiff, Nat.reducePow, Int.reducePow, g0, g4, g5, g6]
        (first | with_reducible refine condW_not ?_ ?_ | refine condW_split ?_ ?_) <;> intro h5 <;> simp only [go_sem, Nat.reduceBEq, Nat.reduceAdd, Nat.reduceMul, Nat.reduceSub, Nat.reduceLeDiff, Int.reduceAdd, Int.reduceSub, Int.reduceMul, Int.reduceLE, Int.reduceLT, Int.reduceEq, Int.reduceNeg, Int.reduceToNat, Int.reduceTDiv, Int.reduceTMod, reduceIte, Nat.reduceEqDiff, Nat.reducePow, Int.reducePow, g0, g4, g5, g6, h5]
        · have hlt : j < countU s := by have := toProp h5; omega
          have w1 : IntKind.i64.wrap (((1 + 2 * j : Nat) : Int) + 2) = ((1 + 2 * (j + 1) : Nat) : Int) := by rw [wrap_i64 (by omega) (by omega)]; omega
          simp only [go_sem, Nat.reduceBEq, Nat.reduceAdd, Nat.reduceMul, Nat.reduceSub, Nat.reduceLeDiff, Int.reduceAdd, Int.reduceSub, Int.reduceMul, Int.reduceLE, Int.reduceLT, Int.reduceEq, Int.reduceNeg, Int.reduceToNat, Int.reduceTDiv, Int.reduceTMod, reduceIte, Nat.reduceEqDiff, Nat.reducePow, Int.reducePow, g0, g4, g5, g6, w1]
          obtain ⟨bs, hbs⟩ : ∃ bs, (s.take (1 + 2 * (j + 1))).drop (1 + 2 * j) = bs := ⟨_, rfl⟩
          have hbl : bs.length = 2 := by rw [← hbs]; simp; omega
          have hun : accU bs = unitU s j := by rw [unitU, hW, ← hbs, List.drop_take]; congr 2; omega
          refine ⟨⟨by omega, by omega, by omega⟩, ?_⟩
          rw [hbs]
          refine wpc_loop Nat (fun k => [(0, .d (.str s)), (4, .d (.int .i64 2)), (5, .ptr 0 0), (6, .d (.int .i64 (1 + 2 * j : Nat))), (7, .d (.int .i32 (accU (bs.take k)))), (54, .d (.sl .any (bs.map byteEl))), (55, .d (.int .i64 bs.length)), (56, .d (.int .i64 k))])
            (fun k => [.bld 73 5 (textU s j)]) (fun k => k ≤ bs.length) (fun k => bs.length - k) 0 (.refl _ _) (fun i hi => ⟨Nat.zero_le _, rfl, rfl⟩) (Nat.zero_le _) rfl ?_ ?_
          · simp only [go_sem, Nat.reduceBEq, Nat.reduceAdd, Nat.reduceMul, Nat.reduceSub, Nat.reduceLeDiff, Int.reduceAdd, Int.reduceSub, Int.reduceMul, Int.reduceLE, Int.reduceLT, Int.reduceEq, Int.reduceNeg, Int.reduceToNat, Int.reduceTDiv, Int.reduceTMod, reduceIte, Nat.reduceEqDiff, Nat.reducePow, Int.reducePow, g0, g4, g5, g6, w1]
            exact ⟨rfl, rfl⟩
          intro k e2 hk ⟨k0, k4, k5, k6, k7, k54, k55, k56, _⟩
          simp only [go_sem, Nat.reduceBEq, Nat.reduceAdd, Nat.reduceMul, Nat.reduceSub, Nat.reduceLeDiff, Int.reduceAdd, Int.reduceSub, Int.reduceMul, Int.reduceLE, Int.reduceLT, Int.reduceEq, Int.reduceNeg, Int.reduceToNat, Int.reduceTDiv, Int.reduceTMod, reduceIte, Nat.reduceEqDiff, Nat.reducePow, Int.reducePow, k0, k4, k5, k6, k7, k54, k55, k56]
          (first | with_reducible refine condW_not ?_ ?_ | refine condW_split ?_ ?_) <;> intro h6 <;> simp only [go_sem, Nat.reduceBEq, Nat.reduceAdd, Nat.reduceMul, Nat.reduceSub, Nat.reduceLeDiff, Int.reduceAdd, Int.reduceSub, Int.reduceMul, Int.reduceLE, Int.reduceLT, Int.reduceEq, Int.reduceNeg, Int.reduceToNat, Int.reduceTDiv, Int.reduceTMod, reduceIte, Nat.reduceEqDiff, Nat.reducePow, Int.reducePow, k0, k4, k5, k6, k7, k54, k55, k56, h6]
          · have hkl : k < bs.length := by have := toProp h6; omega
            have hacc := accU_lt (bs.take k) (by simp; omega)
            have q := or32 (accU (bs.take k)) bs[k] hacc
            refine ⟨⟨by omega, by omega⟩, ?_⟩
            simp only [go_sem, Nat.reduceBEq, Nat.reduceAdd, Nat.reduceMul, Nat.reduceSub, Nat.reduceLeDiff, Int.reduceAdd, Int.reduceSub, Int.reduceMul, Int.reduceLE, Int.reduceLT, Int.reduceEq, Int.reduceNeg, Int.reduceToNat, Int.reduceTDiv, Int.reduceTMod, reduceIte, Nat.reduceEqDiff, Nat.reducePow, Int.reducePow, k0, k4, k5, k6, k7, k54, k55, k56, byteEl]
            refine ⟨k + 1, by omega, by omega, ⟨_, rfl⟩, ?_, by rw [wrap_i64 (by omega) (by omega)]; rfl⟩
            rw [List.take_succ_eq_append_getElem hkl, accU_app]
            exact congrArg (fun (n : Int) => AV.d (DV.int .i32 n)) q
          · have hkl : k = bs.length := by have := toNot h6; omega
            subst hkl
            rw [List.take_length, hun] at k7
            rw [List.take_length, hun]
            refine callK_pf (p_uchar (unitU s j)) (by first | (simp only [go_sem, Nat.reduceBEq, Nat.reduceAdd, Nat.reduceMul, Nat.reduceSub, Nat.reduceLeDiff, Int.reduceAdd, Int.reduceSub, Int.reduceMul, Int.reduceLE, Int.reduceLT, Int.reduceEq, Int.reduceNeg, Int.reduceToNat, Int.reduceTDiv, Int.reduceTMod, reduceIte, Nat.reduceEqDiff, Nat.reducePow, Int.reducePow]; done) | (simp only [go_sem, Nat.reduceBEq, Nat.reduceAdd, Nat.reduceMul, Nat.reduceSub, Nat.reduceLeDiff, Int.reduceAdd, Int.reduceSub, Int.reduceMul, Int.reduceLE, Int.reduceLT, Int.reduceEq, Int.reduceNeg, Int.reduceToNat, Int.reduceTDiv, Int.reduceTMod, reduceIte, Nat.reduceEqDiff, Nat.reducePow, Int.reducePow]; rfl) | rfl) ?_; simp only [go_sem, Nat.reduceBEq, Nat.reduceAdd, Nat.reduceMul, Nat.reduceSub, Nat.reduceLeDiff, Int.reduceAdd, Int.reduceSub, Int.reduceMul, Int.reduceLE, Int.reduceLT, Int.reduceEq, Int.reduceNeg, Int.reduceToNat, Int.reduceTDiv, Int.reduceTMod, reduceIte, Nat.reduceEqDiff, Nat.reducePow, Int.reducePow, k0, k4, k5, k6, k7, k54, k55, k56, w1]
            (first | with_reducible refine condW_not ?_ ?_ | refine condW_split ?_ ?_) <;> intro h7 <;> simp only [go_sem, Nat.reduceBEq, Nat.reduceAdd, Nat.reduceMul, Nat.reduceSub, Nat.reduceLeDiff, Int.reduceAdd, Int.reduceSub, Int.reduceMul, Int.reduceLE, Int.reduceLT, Int.reduceEq, Int.reduceNeg, Int.reduceToNat, Int.reduceTDiv, Int.reduceTMod, reduceIte, Nat.reduceEqDiff, Nat.reducePow, Int.reducePow, k0, k4, k5, k6, k7, k54, k55, k56, w1, h7]
            · have hall : ((List.range (countU s)).all fun j => charB (unitU s j)) = false := range_all_no _ _ _ hlt h7
              rw [hall, if_neg (by decide)]
            · have htl := textU_len s j
              have hwf := f_brune (G := G) (H := [.bld 73 5 (textU s j)]) (id := 0) (l := textU s j) (runeRow _ h7) rfl (by omega)
              refine callK_fn hwf (by simp only [go_sem, Nat.reduceBEq, Nat.reduceAdd, Nat.reduceMul, Nat.reduceSub, Nat.reduceLeDiff, Int.reduceAdd, Int.reduceSub, Int.reduceMul, Int.reduceLE, Int.reduceLT, Int.reduceEq, Int.reduceNeg, Int.reduceToNat, Int.reduceTDiv, Int.reduceTMod, reduceIte, Nat.reduceEqDiff, Nat.reducePow, Int.reducePow, k0, k4, k5, k6, k7, k54, k55, k56, w1]) ?_
              simp only [go_sem, Nat.reduceBEq, Nat.reduceAdd, Nat.reduceMul, Nat.reduceSub, Nat.reduceLeDiff, Int.reduceAdd, Int.reduceSub, Int.reduceMul, Int.reduceLE, Int.reduceLT, Int.reduceEq, Int.reduceNeg, Int.reduceToNat, Int.reduceTDiv, Int.reduceTMod, reduceIte, Nat.reduceEqDiff, Nat.reducePow, Int.reducePow, k0, k4, k5, k6, k7, k54, k55, k56, w1]
              refine ⟨j + 1, ⟨by omega, fun k hk => ?_⟩, by omega, ⟨_, by rw [textU_succ]⟩, rfl⟩
              rcases Nat.lt_or_ge k j with h8 | h8
              · exact ha k h8
              · have : k = j := by omega
                subst this; exact h7
        · have hjc : j = countU s := by have := toNot h5; omega
          subst hjc
          have hall : ((List.range (countU s)).all fun j => charB (unitU s j)) = true := by
            rw [List.all_eq_true]; intro k hk; exact ha k (by simpa using hk)
          rw [hall, if_pos rfl]
          refine callK_fn (f_bstring (id := 0) rfl) (by simp only [go_sem, Nat.reduceBEq, Nat.reduceAdd, Nat.reduceMul, Nat.reduceSub, Nat.reduceLeDiff, Int.reduceAdd, Int.reduceSub, Int.reduceMul, Int.reduceLE, Int.reduceLT, Int.reduceEq, Int.reduceNeg, Int.reduceToNat, Int.reduceTDiv, Int.reduceTMod, reduceIte, Nat.reduceEqDiff, Nat.reducePow, Int.reducePow, g0, g4, g5, g6]) ?_
          simp only [go_sem, Nat.reduceBEq, Nat.reduceAdd, Nat.reduceMul, Nat.reduceSub, Nat.reduceLeDiff, Int.reduceAdd, Int.reduceSub, Int.reduceMul, Int.reduceLE, Int.reduceLT, Int.reduceEq, Int.reduceNeg, Int.reduceToNat, Int.reduceTDiv, Int.reduceTMod, reduceIte, Nat.reduceEqDiff, Nat.reducePow, Int.reducePow, g0, g4, g5, g6]
      · have q8 : decide ((s[0].toNat : Int) = 8) = false := by rw [hx]; simp; omega
        have q16 : decide ((s[0].toNat : Int) = 16) = false := by rw [hx]; simp; omega
        have hb : badU s = true := by simp [badU, hc1, hc2]
        rw [hb, if_pos rfl]
        refine ⟨h0, ?_⟩
        simp only [go_sem, Nat.reduceBEq, Nat.reduceAdd, Nat.reduceMul, Nat.reduceSub, Nat.reduceLeDiff, Int.reduceAdd, Int.reduceSub, Int.reduceMul, Int.reduceLE, Int.reduceLT, Int.reduceEq, Int.reduceNeg, Int.reduceToNat, Int.reduceTDiv, Int.reduceTMod, reduceIte, Nat.reduceEqDiff, Nat.reducePow, Int.reducePow, q8, q16, hmod]
        first | exact h0 | exact ⟨h0, rfl⟩
end Go.Proofs.YtjmldlknegbimaaGreatDoor.Sx
