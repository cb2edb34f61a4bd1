/- cmp, endian: what the functions compute. -/
import Derived.Test.YtjmldlknegbimaaGreatDoorT0
import Derived.Laws.BitsAllLaws
set_option linter.unusedVariables false
set_option linter.unusedSimpArgs false
namespace Go.Proofs.YtjmldlknegbimaaGreatDoor.Sx
open Go Go.RowKit
variable {G : Gl}

def cmpI (a b : Int) : Int := if a < b then -1 else if b < a then 1 else 0
def intEl (n : Int) : List DV := [.int .i64 n]
@[go_sem] theorem intEl_len (n : Int) : (intEl n).length = 1 := rfl
@[go_sem] theorem intEl_map (n : Int) : (intEl n).map AV.d = [.d (.int .i64 n)] := rfl
def orI (l : List Int) : Int := (l.find? (fun n => n != 0)).getD 0
/-! Numbers as bytes, the least first -/
def byteAt (n : Int) (i : Nat) : UInt8 := UInt8.ofNat (n / 2 ^ (8 * i) % 256).toNat
def leN (w : Nat) (n : Int) : List UInt8 := (List.range w).map (byteAt n)
theorem byteAt_toNat (n : Int) (i : Nat) : ((byteAt n i).toNat : Int) = n / 2 ^ (8 * i) % 256 := by
  have h1 : 0 ≤ n / 2 ^ (8 * i) % 256 := Int.emod_nonneg _ (by decide)
  have h2 : n / 2 ^ (8 * i) % 256 < 256 := Int.emod_lt_of_pos _ (by decide)
  simp only [byteAt, UInt8.toNat_ofNat']
  omega

theorem p_up1 (n : Int) : PF Tryz.prog G 86 [.int .i64 n] (.int .i64 n) := by
  refine PF.of_body mo Tryz.func86 rfl (by kernel_rfl) (by kernel_rfl) (by simp [Tryz.ntmps86]) ?_; simp only [go_sem, Nat.reduceBEq, Nat.reduceAdd, Nat.reduceMul, Nat.reduceSub, Nat.reduceLeDiff, Int.reduceAdd, Int.reduceSub, Int.reduceMul, Int.reduceLE, Int.reduceLT, Int.reduceEq, Int.reduceNeg, Int.reduceToNat, Int.reduceTDiv, Int.reduceTMod, reduceIte, Nat.reduceEqDiff, Nat.reducePow, Int.reducePow, Tryz.results86]
theorem p_up (n : Int) : PF Tryz.prog G 58 [.int .i64 n] (.func 86) := by
  refine PF.of_body mo Tryz.func58 rfl (by kernel_rfl) (by kernel_rfl) (by simp [Tryz.ntmps58]) ?_; simp only [go_sem, Nat.reduceBEq, Nat.reduceAdd, Nat.reduceMul, Nat.reduceSub, Nat.reduceLeDiff, Int.reduceAdd, Int.reduceSub, Int.reduceMul, Int.reduceLE, Int.reduceLT, Int.reduceEq, Int.reduceNeg, Int.reduceToNat, Int.reduceTDiv, Int.reduceTMod, reduceIte, Nat.reduceEqDiff, Nat.reducePow, Int.reducePow, Tryz.results58]
def insideB (len : Nat) (at' w : Int) : Bool := decide (0 ≤ at') && decide (at' ≤ len - w)
theorem p_inside (s : List UInt8) (a w : Int) (hs : s.length < 2 ^ 40) (hw : 0 ≤ w) (hw' : w < 2 ^ 40) : PF Tryz.prog G 102 [.str s, .int .i64 a, .int .i64 w] (.bool (insideB s.length a w)) := by
  refine PF.of_body mo Tryz.func102 rfl (by kernel_rfl) (by kernel_rfl) (by simp [Tryz.ntmps102]) ?_; simp only [go_sem, Nat.reduceBEq, Nat.reduceAdd, Nat.reduceMul, Nat.reduceSub, Nat.reduceLeDiff, Int.reduceAdd, Int.reduceSub, Int.reduceMul, Int.reduceLE, Int.reduceLT, Int.reduceEq, Int.reduceNeg, Int.reduceToNat, Int.reduceTDiv, Int.reduceTMod, reduceIte, Nat.reduceEqDiff, Nat.reducePow, Int.reducePow, Tryz.results102]
  (first | with_reducible refine gO_not ?_ ?_ | with_reducible refine gT_not ?_ ?_ | refine gO_split ?_ ?_ | refine gT_split ?_ ?_) <;> intro h <;> simp only [go_sem, Nat.reduceBEq, Nat.reduceAdd, Nat.reduceMul, Nat.reduceSub, Nat.reduceLeDiff, Int.reduceAdd, Int.reduceSub, Int.reduceMul, Int.reduceLE, Int.reduceLT, Int.reduceEq, Int.reduceNeg, Int.reduceToNat, Int.reduceTDiv, Int.reduceTMod, reduceIte, Nat.reduceEqDiff, Nat.reducePow, Int.reducePow, h]
  · rw [wrap_i64 (by omega) (by omega)]; simp [insideB, toProp h]
  · simp [insideB, toNot h]
def fitsB (n : Int) (w : Int) : Bool := decide (0 ≤ n) && (decide (w = 8) || decide (n < 2 ^ (8 * w.toNat)))
theorem p_fits (n w : Int) (h1 : 1 ≤ w) (h2 : w ≤ 8) (hn : n < 2 ^ 63) : PF Tryz.prog G 85 [.int .i64 n, .int .i64 w] (.bool (fitsB n w)) := by
  refine PF.of_body mo Tryz.func85 rfl (by kernel_rfl) (by kernel_rfl) (by simp [Tryz.ntmps85]) ?_; simp only [go_sem, Nat.reduceBEq, Nat.reduceAdd, Nat.reduceMul, Nat.reduceSub, Nat.reduceLeDiff, Int.reduceAdd, Int.reduceSub, Int.reduceMul, Int.reduceLE, Int.reduceLT, Int.reduceEq, Int.reduceNeg, Int.reduceToNat, Int.reduceTDiv, Int.reduceTMod, reduceIte, Nat.reduceEqDiff, Nat.reducePow, Int.reducePow, Tryz.results85]
  (first | with_reducible refine gO_not ?_ ?_ | with_reducible refine gT_not ?_ ?_ | refine gO_split ?_ ?_ | refine gT_split ?_ ?_) <;> intro h <;> simp only [go_sem, Nat.reduceBEq, Nat.reduceAdd, Nat.reduceMul, Nat.reduceSub, Nat.reduceLeDiff, Int.reduceAdd, Int.reduceSub, Int.reduceMul, Int.reduceLE, Int.reduceLT, Int.reduceEq, Int.reduceNeg, Int.reduceToNat, Int.reduceTDiv, Int.reduceTMod, reduceIte, Nat.reduceEqDiff, Nat.reducePow, Int.reducePow, h]
  · (first | with_reducible refine gO_not ?_ ?_ | with_reducible refine gT_not ?_ ?_ | refine gO_split ?_ ?_ | refine gT_split ?_ ?_) <;> intro h2 <;> simp only [go_sem, Nat.reduceBEq, Nat.reduceAdd, Nat.reduceMul, Nat.reduceSub, Nat.reduceLeDiff, Int.reduceAdd, Int.reduceSub, Int.reduceMul, Int.reduceLE, Int.reduceLT, Int.reduceEq, Int.reduceNeg, Int.reduceToNat, Int.reduceTDiv, Int.reduceTMod, reduceIte, Nat.reduceEqDiff, Nat.reducePow, Int.reducePow, h2]
    · have hw : w ≠ 8 := toNot h2
      have h0 : 0 ≤ 8 * w := by omega
      have h3 : (8 * w).toNat = 8 * w.toNat := by omega
      have h4 : min (8 * w.toNat) 64 = 8 * w.toNat := by omega
      have h5 : (2 : Int) ^ (8 * w.toNat) ≤ 2 ^ 56 := by
        have : w.toNat = 1 ∨ w.toNat = 2 ∨ w.toNat = 3 ∨ w.toNat = 4 ∨ w.toNat = 5 ∨ w.toNat = 6 ∨ w.toNat = 7 := by omega
        rcases this with h | h | h | h | h | h | h <;> rw [h] <;> decide
      have h6 : (0 : Int) < 2 ^ (8 * w.toNat) := Int.pow_pos (by decide)
      rw [wrap_i64 (by omega) (by omega), h3]
      refine ⟨h0, ?_⟩
      rw [h4, Int.one_mul, wrap_i64 (by omega) (by omega)]
      simp [fitsB, toProp h, hw]
    · simp [fitsB, toProp h, toProp h2]
  · simp [fitsB, toNot h]
def errOf (n w : Int) : Int := if w < 1 ∨ 8 < w then 1 else if fitsB n w then 0 else 2
theorem p_check (n w : Int) (hn : n < 2 ^ 63) : PF Tryz.prog G 56 [.int .i64 n, .int .i64 w] (.int .i64 (errOf n w)) := by
  refine PF.of_body mo Tryz.func56 rfl (by kernel_rfl) (by kernel_rfl) (by simp [Tryz.ntmps56]) ?_; simp only [go_sem, Nat.reduceBEq, Nat.reduceAdd, Nat.reduceMul, Nat.reduceSub, Nat.reduceLeDiff, Int.reduceAdd, Int.reduceSub, Int.reduceMul, Int.reduceLE, Int.reduceLT, Int.reduceEq, Int.reduceNeg, Int.reduceToNat, Int.reduceTDiv, Int.reduceTMod, reduceIte, Nat.reduceEqDiff, Nat.reducePow, Int.reducePow, Tryz.results56]
  (first | with_reducible refine gO_not ?_ ?_ | with_reducible refine gT_not ?_ ?_ | refine gO_split ?_ ?_ | refine gT_split ?_ ?_) <;> intro h <;> simp only [go_sem, Nat.reduceBEq, Nat.reduceAdd, Nat.reduceMul, Nat.reduceSub, Nat.reduceLeDiff, Int.reduceAdd, Int.reduceSub, Int.reduceMul, Int.reduceLE, Int.reduceLT, Int.reduceEq, Int.reduceNeg, Int.reduceToNat, Int.reduceTDiv, Int.reduceTMod, reduceIte, Nat.reduceEqDiff, Nat.reducePow, Int.reducePow, h]
  · (first | with_reducible refine condW_not ?_ ?_ | refine condW_split ?_ ?_) <;> intro h2 <;> simp only [go_sem, Nat.reduceBEq, Nat.reduceAdd, Nat.reduceMul, Nat.reduceSub, Nat.reduceLeDiff, Int.reduceAdd, Int.reduceSub, Int.reduceMul, Int.reduceLE, Int.reduceLT, Int.reduceEq, Int.reduceNeg, Int.reduceToNat, Int.reduceTDiv, Int.reduceTMod, reduceIte, Nat.reduceEqDiff, Nat.reducePow, Int.reducePow, h2]
    · simp [errOf, toProp h2]
    · have h1 := toNot h
      have h3 := toNot h2
      refine callK_pf (p_fits n w (by omega) (by omega) hn) (by first | (simp only [go_sem, Nat.reduceBEq, Nat.reduceAdd, Nat.reduceMul, Nat.reduceSub, Nat.reduceLeDiff, Int.reduceAdd, Int.reduceSub, Int.reduceMul, Int.reduceLE, Int.reduceLT, Int.reduceEq, Int.reduceNeg, Int.reduceToNat, Int.reduceTDiv, Int.reduceTMod, reduceIte, Nat.reduceEqDiff, Nat.reducePow, Int.reducePow]; done) | (simp only [go_sem, Nat.reduceBEq, Nat.reduceAdd, Nat.reduceMul, Nat.reduceSub, Nat.reduceLeDiff, Int.reduceAdd, Int.reduceSub, Int.reduceMul, Int.reduceLE, Int.reduceLT, Int.reduceEq, Int.reduceNeg, Int.reduceToNat, Int.reduceTDiv, Int.reduceTMod, reduceIte, Nat.reduceEqDiff, Nat.reducePow, Int.reducePow]; rfl) | rfl) ?_; simp only [go_sem, Nat.reduceBEq, Nat.reduceAdd, Nat.reduceMul, Nat.reduceSub, Nat.reduceLeDiff, Int.reduceAdd, Int.reduceSub, Int.reduceMul, Int.reduceLE, Int.reduceLT, Int.reduceEq, Int.reduceNeg, Int.reduceToNat, Int.reduceTDiv, Int.reduceTMod, reduceIte, Nat.reduceEqDiff, Nat.reducePow, Int.reducePow]
      (first | with_reducible refine condW_not ?_ ?_ | refine condW_split ?_ ?_) <;> intro h4 <;> simp only [go_sem, Nat.reduceBEq, Nat.reduceAdd, Nat.reduceMul, Nat.reduceSub, Nat.reduceLeDiff, Int.reduceAdd, Int.reduceSub, Int.reduceMul, Int.reduceLE, Int.reduceLT, Int.reduceEq, Int.reduceNeg, Int.reduceToNat, Int.reduceTDiv, Int.reduceTMod, reduceIte, Nat.reduceEqDiff, Nat.reducePow, Int.reducePow, h4]
      · simp [errOf, h1, h3, h4]
      · simp [errOf, h1, h3, h4]
  · simp [errOf, toProp h]
def littleV (n w : Int) : DV := .tup [.str (if errOf n w = 0 then leN w.toNat n else []), .int .i64 (errOf n w)]
def wbox (n : Int) (W i : Nat) : List AV := (List.range W).map fun j => .d (.int .u8 (if j < i then ((byteAt n j).toNat : Int) else 0))
theorem wbox_zero (n : Int) (W : Nat) : wbox n W 0 = List.replicate W (.d (.int .u8 0)) := by
  apply List.ext_getElem
  · simp [wbox]
  · intro i h1 h2; simp [wbox]
theorem wbox_len (n : Int) (W i : Nat) : (wbox n W i).length = W := by simp [wbox]
theorem wbox_set (n : Int) (W i : Nat) (hi : i < W) : (wbox n W i).take i ++ [.d (.int .u8 ((byteAt n i).toNat : Int))] ++ (wbox n W i).drop (i + 1) = wbox n W (i + 1) := by
  apply List.ext_getElem
  · simp [wbox]; omega
  · intro j h1 h2
    simp only [wbox, List.length_map, List.length_range] at h2
    rw [List.getElem_append]
    simp only [wbox, List.length_append, List.length_take, List.length_map, List.length_range, List.length_cons, List.length_nil, List.getElem_append, List.getElem_take, List.getElem_map, List.getElem_range, List.getElem_drop]
    have hm : min i W = i := by omega
    simp only [hm]
    split
    · split
      · simp only [show j < i + 1 by omega, if_true]
      · have : j = i := by omega
        subst this
        simp
    · have e1 : i + 1 + (j - (i + (0 + 1))) = j := by omega
      simp only [e1, show ¬ j < i by omega, show ¬ j < i + 1 by omega, if_false]
theorem ltL_map {α : Type} (m : Nat) (f : α → DV) (l : List α) : AV.ltL m (l.map fun x => .d (f x)) = true := by
  induction l with
  | nil => rfl
  | cons x r ih => rw [List.map_cons, AV.ltL, ih]; rfl
theorem ltL_wbox (m : Nat) (n : Int) (W i : Nat) : AV.ltL m (wbox n W i) = true := ltL_map m _ _
theorem wbox_all (n : Int) (W i : Nat) : (wbox n W i).all oneA = true := by simp [wbox, oneA]
theorem allD_wbox (n : Int) (W : Nat) : allD (wbox n W W) = some ((leN W n).map fun b => DV.int .u8 (b.toNat : Nat)) := by
  have : wbox n W W = ((leN W n).map fun b => DV.int .u8 (b.toNat : Nat)).map .d := by
    simp only [wbox, leN, List.map_map]
    apply List.map_congr_left
    intro j hj
    simp at hj
    simp [hj]
  rw [this, allD_map]
theorem cvBy_wbox (n : Int) (W : Nat) : cvBy [.box (wbox n W W)] (.bsl 0 0 W W) = some (.d (.str (leN W n)), [.box (wbox n W W)]) := by
  have h1 : ((wbox n W W).drop 0).take W = wbox n W W := by simp [List.take_of_length_le, wbox_len]
  have h2 : bytesOf (((leN W n).map fun b => DV.int .u8 (b.toNat : Nat)).map fun d => [d]) = some (leN W n) := by
    rw [List.map_map]
    exact bytesOf_map (leN W n)
  simp only [cvBy, List.getElem?_cons_zero, h1, allD_wbox, h2, Nat.zero_add, wbox_len, Nat.le_refl, if_true]
theorem p_write (n w : Int) (h0 : 0 ≤ n) (h1 : 1 ≤ w) (h2 : w ≤ 8) : PF Tryz.prog G 57 [.int .i64 n, .int .i64 w, .func 86] (.str (leN w.toNat n)) := by
  refine PF.of_body mo Tryz.func57 rfl (by kernel_rfl) (by kernel_rfl) (by simp [Tryz.ntmps57]) ?_; simp only [go_sem, Nat.reduceBEq, Nat.reduceAdd, Nat.reduceMul, Nat.reduceSub, Nat.reduceLeDiff, Int.reduceAdd, Int.reduceSub, Int.reduceMul, Int.reduceLE, Int.reduceLT, Int.reduceEq, Int.reduceNeg, Int.reduceToNat, Int.reduceTDiv, Int.reduceTMod, reduceIte, Nat.reduceEqDiff, Nat.reducePow, Int.reducePow, Tryz.results57]
  refine ⟨by omega, ?_⟩
  refine wpc_loop Nat (fun i => [(0, .d (.int .i64 n)), (2, .d (.func 86)), (7, .bsl 0 0 w.toNat w.toNat), (11, .d (.int .i64 w)), (12, .d (.int .i64 i))]) (fun i => [.box (wbox n w.toNat i)]) (fun i => i ≤ w.toNat) (fun i => w.toNat - i) 0
    (.refl _ _) (fun i hi => ⟨Nat.zero_le _, rfl, by simp [ltBoxes, ltL_wbox]⟩) (Nat.zero_le _) (by rw [wbox_zero]) ?_ ?_
  · simp only [go_sem, Nat.reduceBEq, Nat.reduceAdd, Nat.reduceMul, Nat.reduceSub, Nat.reduceLeDiff, Int.reduceAdd, Int.reduceSub, Int.reduceMul, Int.reduceLE, Int.reduceLT, Int.reduceEq, Int.reduceNeg, Int.reduceToNat, Int.reduceTDiv, Int.reduceTMod, reduceIte, Nat.reduceEqDiff, Nat.reducePow, Int.reducePow, Int.natCast_zero]
  intro i e hi ⟨h0', h2', h7, h11, h12, _⟩
  simp only [go_sem, Nat.reduceBEq, Nat.reduceAdd, Nat.reduceMul, Nat.reduceSub, Nat.reduceLeDiff, Int.reduceAdd, Int.reduceSub, Int.reduceMul, Int.reduceLE, Int.reduceLT, Int.reduceEq, Int.reduceNeg, Int.reduceToNat, Int.reduceTDiv, Int.reduceTMod, reduceIte, Nat.reduceEqDiff, Nat.reducePow, Int.reducePow, h0', h2', h7, h11, h12]
  (first | with_reducible refine condW_not ?_ ?_ | refine condW_split ?_ ?_) <;> intro h <;> simp only [go_sem, Nat.reduceBEq, Nat.reduceAdd, Nat.reduceMul, Nat.reduceSub, Nat.reduceLeDiff, Int.reduceAdd, Int.reduceSub, Int.reduceMul, Int.reduceLE, Int.reduceLT, Int.reduceEq, Int.reduceNeg, Int.reduceToNat, Int.reduceTDiv, Int.reduceTMod, reduceIte, Nat.reduceEqDiff, Nat.reducePow, Int.reducePow, h0', h2', h7, h11, h12, h]
  · have hlt : (i : Int) < w := toProp h
    refine callKT_pf (p_up1 i) (by first | (simp only [go_sem, Nat.reduceBEq, Nat.reduceAdd, Nat.reduceMul, Nat.reduceSub, Nat.reduceLeDiff, Int.reduceAdd, Int.reduceSub, Int.reduceMul, Int.reduceLE, Int.reduceLT, Int.reduceEq, Int.reduceNeg, Int.reduceToNat, Int.reduceTDiv, Int.reduceTMod, reduceIte, Nat.reduceEqDiff, Nat.reducePow, Int.reducePow]; done) | (simp only [go_sem, Nat.reduceBEq, Nat.reduceAdd, Nat.reduceMul, Nat.reduceSub, Nat.reduceLeDiff, Int.reduceAdd, Int.reduceSub, Int.reduceMul, Int.reduceLE, Int.reduceLT, Int.reduceEq, Int.reduceNeg, Int.reduceToNat, Int.reduceTDiv, Int.reduceTMod, reduceIte, Nat.reduceEqDiff, Nat.reducePow, Int.reducePow]; rfl) | rfl) ?_; simp only [go_sem, Nat.reduceBEq, Nat.reduceAdd, Nat.reduceMul, Nat.reduceSub, Nat.reduceLeDiff, Int.reduceAdd, Int.reduceSub, Int.reduceMul, Int.reduceLE, Int.reduceLT, Int.reduceEq, Int.reduceNeg, Int.reduceToNat, Int.reduceTDiv, Int.reduceTMod, reduceIte, Nat.reduceEqDiff, Nat.reducePow, Int.reducePow, h0', h2', h7, h11, h12]
    rw [wrap_i64 (n := 8 * (i : Int)) (by omega) (by omega)]
    have e1 : IntKind.u8.wrap (n.fdiv (2 ^ min (8 * (i : Int)).toNat 64)) = ((byteAt n i).toNat : Int) := by
      rw [byteAt_toNat, wrap_u8, show min (8 * (i : Int)).toNat 64 = 8 * i by omega, Int.fdiv_eq_ediv_of_nonneg _ (Int.le_of_lt (Int.pow_pos (by decide)))]
    refine ⟨by omega, ?_⟩
    simp only [go_sem, Nat.reduceBEq, Nat.reduceAdd, Nat.reduceMul, Nat.reduceSub, Nat.reduceLeDiff, Int.reduceAdd, Int.reduceSub, Int.reduceMul, Int.reduceLE, Int.reduceLT, Int.reduceEq, Int.reduceNeg, Int.reduceToNat, Int.reduceTDiv, Int.reduceTMod, reduceIte, Nat.reduceEqDiff, Nat.reducePow, Int.reducePow, h0', h2', h7, h11, h12, e1, wbox_len, wbox_all, Nat.mul_one]
    have hlt' : i < w.toNat := by omega
    refine ⟨by omega, by omega, by kernel_rfl, i + 1, by omega, by omega, ⟨[], by rw [wbox_set _ _ _ hlt']⟩, ?_⟩
    rw [wrap_i64 (by omega) (by omega)]; rfl
  · have : i = w.toNat := by have := toNot h; omega
    subst this
    simp only [go_sem, Nat.reduceBEq, Nat.reduceAdd, Nat.reduceMul, Nat.reduceSub, Nat.reduceLeDiff, Int.reduceAdd, Int.reduceSub, Int.reduceMul, Int.reduceLE, Int.reduceLT, Int.reduceEq, Int.reduceNeg, Int.reduceToNat, Int.reduceTDiv, Int.reduceTMod, reduceIte, Nat.reduceEqDiff, Nat.reducePow, Int.reducePow, h0', h2', h7, h11, h12, cvBy_wbox]
theorem p_little (n w : Int) (hn : n < 2 ^ 63) : PF Tryz.prog G 28 [.int .i64 n, .int .i64 w] (littleV n w) := by
  refine PF.of_body mo Tryz.func28 rfl (by kernel_rfl) (by kernel_rfl) (by simp [Tryz.ntmps28]) ?_; simp only [go_sem, Nat.reduceBEq, Nat.reduceAdd, Nat.reduceMul, Nat.reduceSub, Nat.reduceLeDiff, Int.reduceAdd, Int.reduceSub, Int.reduceMul, Int.reduceLE, Int.reduceLT, Int.reduceEq, Int.reduceNeg, Int.reduceToNat, Int.reduceTDiv, Int.reduceTMod, reduceIte, Nat.reduceEqDiff, Nat.reducePow, Int.reducePow, Tryz.results28]
  refine callK_pf (p_check n w hn) (by first | (simp only [go_sem, Nat.reduceBEq, Nat.reduceAdd, Nat.reduceMul, Nat.reduceSub, Nat.reduceLeDiff, Int.reduceAdd, Int.reduceSub, Int.reduceMul, Int.reduceLE, Int.reduceLT, Int.reduceEq, Int.reduceNeg, Int.reduceToNat, Int.reduceTDiv, Int.reduceTMod, reduceIte, Nat.reduceEqDiff, Nat.reducePow, Int.reducePow]; done) | (simp only [go_sem, Nat.reduceBEq, Nat.reduceAdd, Nat.reduceMul, Nat.reduceSub, Nat.reduceLeDiff, Int.reduceAdd, Int.reduceSub, Int.reduceMul, Int.reduceLE, Int.reduceLT, Int.reduceEq, Int.reduceNeg, Int.reduceToNat, Int.reduceTDiv, Int.reduceTMod, reduceIte, Nat.reduceEqDiff, Nat.reducePow, Int.reducePow]; rfl) | rfl) ?_; simp only [go_sem, Nat.reduceBEq, Nat.reduceAdd, Nat.reduceMul, Nat.reduceSub, Nat.reduceLeDiff, Int.reduceAdd, Int.reduceSub, Int.reduceMul, Int.reduceLE, Int.reduceLT, Int.reduceEq, Int.reduceNeg, Int.reduceToNat, Int.reduceTDiv, Int.reduceTMod, reduceIte, Nat.reduceEqDiff, Nat.reducePow, Int.reducePow]
  (first | with_reducible refine condW_not ?_ ?_ | refine condW_split ?_ ?_) <;> intro h <;> simp only [go_sem, Nat.reduceBEq, Nat.reduceAdd, Nat.reduceMul, Nat.reduceSub, Nat.reduceLeDiff, Int.reduceAdd, Int.reduceSub, Int.reduceMul, Int.reduceLE, Int.reduceLT, Int.reduceEq, Int.reduceNeg, Int.reduceToNat, Int.reduceTDiv, Int.reduceTMod, reduceIte, Nat.reduceEqDiff, Nat.reducePow, Int.reducePow, h]
  · have := toNot h
    simp [littleV, this]
  · have e : errOf n w = 0 := toProp h
    have e2 : ¬ (w < 1 ∨ 8 < w) ∧ fitsB n w = true := by
      unfold errOf at e
      by_cases c : w < 1 ∨ 8 < w
      · simp [c] at e
      · by_cases c2 : fitsB n w = true
        · exact ⟨c, c2⟩
        · simp [c, c2] at e
    have h0 : 0 ≤ n := by have := e2.2; simp [fitsB] at this; exact this.1
    refine callK_pf (p_up w) (by first | (simp only [go_sem, Nat.reduceBEq, Nat.reduceAdd, Nat.reduceMul, Nat.reduceSub, Nat.reduceLeDiff, Int.reduceAdd, Int.reduceSub, Int.reduceMul, Int.reduceLE, Int.reduceLT, Int.reduceEq, Int.reduceNeg, Int.reduceToNat, Int.reduceTDiv, Int.reduceTMod, reduceIte, Nat.reduceEqDiff, Nat.reducePow, Int.reducePow]; done) | (simp only [go_sem, Nat.reduceBEq, Nat.reduceAdd, Nat.reduceMul, Nat.reduceSub, Nat.reduceLeDiff, Int.reduceAdd, Int.reduceSub, Int.reduceMul, Int.reduceLE, Int.reduceLT, Int.reduceEq, Int.reduceNeg, Int.reduceToNat, Int.reduceTDiv, Int.reduceTMod, reduceIte, Nat.reduceEqDiff, Nat.reducePow, Int.reducePow]; rfl) | rfl) ?_; simp only [go_sem, Nat.reduceBEq, Nat.reduceAdd, Nat.reduceMul, Nat.reduceSub, Nat.reduceLeDiff, Int.reduceAdd, Int.reduceSub, Int.reduceMul, Int.reduceLE, Int.reduceLT, Int.reduceEq, Int.reduceNeg, Int.reduceToNat, Int.reduceTDiv, Int.reduceTMod, reduceIte, Nat.reduceEqDiff, Nat.reducePow, Int.reducePow]
    refine callK_pf (p_write n w h0 (by omega) (by omega)) (by first | (simp only [go_sem, Nat.reduceBEq, Nat.reduceAdd, Nat.reduceMul, Nat.reduceSub, Nat.reduceLeDiff, Int.reduceAdd, Int.reduceSub, Int.reduceMul, Int.reduceLE, Int.reduceLT, Int.reduceEq, Int.reduceNeg, Int.reduceToNat, Int.reduceTDiv, Int.reduceTMod, reduceIte, Nat.reduceEqDiff, Nat.reducePow, Int.reducePow]; done) | (simp only [go_sem, Nat.reduceBEq, Nat.reduceAdd, Nat.reduceMul, Nat.reduceSub, Nat.reduceLeDiff, Int.reduceAdd, Int.reduceSub, Int.reduceMul, Int.reduceLE, Int.reduceLT, Int.reduceEq, Int.reduceNeg, Int.reduceToNat, Int.reduceTDiv, Int.reduceTMod, reduceIte, Nat.reduceEqDiff, Nat.reducePow, Int.reducePow]; rfl) | rfl) ?_; simp only [go_sem, Nat.reduceBEq, Nat.reduceAdd, Nat.reduceMul, Nat.reduceSub, Nat.reduceLeDiff, Int.reduceAdd, Int.reduceSub, Int.reduceMul, Int.reduceLE, Int.reduceLT, Int.reduceEq, Int.reduceNeg, Int.reduceToNat, Int.reduceTDiv, Int.reduceTMod, reduceIte, Nat.reduceEqDiff, Nat.reducePow, Int.reducePow]
    simp [littleV, e]

/-! Reading: the least byte first -/
def readN : List UInt8 → Nat
  | [] => 0
  | b :: r => b.toNat + 256 * readN r
theorem readN_snoc (x : List UInt8) (b : UInt8) : readN (x ++ [b]) = readN x + b.toNat * 256 ^ x.length := by
  induction x with
  | nil => simp [readN]
  | cons c r ih => simp only [List.cons_append, readN, ih, List.length_cons, Nat.pow_succ]; rw [Nat.mul_add]; simp [Nat.add_assoc, Nat.mul_comm, Nat.mul_left_comm, Nat.mul_assoc]
theorem readN_lt (x : List UInt8) : readN x < 256 ^ x.length := by
  induction x with
  | nil => simp [readN]
  | cons c r ih =>
    have := c.toNat_lt
    simp only [readN, List.length_cons, Nat.pow_succ]
    omega
theorem or_step (acc : Nat) (b : UInt8) (i : Nat) (hi : i < 8) (h : acc < 256 ^ i) : bits .or .u64 (acc : Int) (IntKind.u64.wrap (IntKind.u64.wrap (b.toNat : Int) * 2 ^ min (8 * (i : Int)).toNat 64)) = ((acc + b.toNat * 256 ^ i : Nat) : Int) := by
  have hb := b.toNat_lt
  have e1 : min (8 * (i : Int)).toNat 64 = 8 * i := by omega
  have e2 : (256 : Nat) ^ i = 2 ^ (8 * i) := by rw [Nat.pow_mul]
  have e3 : (2 : Nat) ^ (8 * i) ≤ 2 ^ 56 := Nat.pow_le_pow_right (by decide) (by omega)
  have e4 : b.toNat * 2 ^ (8 * i) < 18446744073709551616 := by
    have : b.toNat * 2 ^ (8 * i) ≤ 255 * 2 ^ 56 := Nat.mul_le_mul (by omega) e3
    omega
  rw [e2] at h ⊢
  rw [e1, wrap_u64, wrap_u64, show ((b.toNat : Int) % 18446744073709551616 * 2 ^ (8 * i)) = ((b.toNat * 2 ^ (8 * i) : Nat) : Int) by rw [Int.emod_eq_of_lt (by omega) (by omega)]; simp]
  rw [show (((b.toNat * 2 ^ (8 * i) : Nat) : Int) % 18446744073709551616) = ((b.toNat * 2 ^ (8 * i) : Nat) : Int) from Int.emod_eq_of_lt (by omega) (by omega)]
  rw [u64_or_nat _ _ (by omega) e4]
  congr 1
  rw [Nat.or_comm, ← Nat.shiftLeft_eq, ← Nat.shiftLeft_add_eq_or_of_lt h]
  omega
def partOf (s : List UInt8) (a w : Int) : List UInt8 := (s.drop a.toNat).take w.toNat
def readErr (s : List UInt8) (a w : Int) : Int := if w < 1 ∨ 8 < w then 1 else if insideB s.length a w then (if readN (partOf s a w) ≤ 9223372036854775807 then 0 else 7) else 2
def readV (s : List UInt8) (a w : Int) : DV := .tup [.int .i64 (if readErr s a w = 0 then (readN (partOf s a w) : Int) else 0), .int .i64 (readErr s a w)]
theorem p_read (s : List UInt8) (a w : Int) (hs : s.length < 2 ^ 40) : PF Tryz.prog G 72 [.str s, .int .i64 a, .int .i64 w, .func 86] (readV s a w) := by
  refine PF.of_body mo Tryz.func72 rfl (by kernel_rfl) (by kernel_rfl) (by simp [Tryz.ntmps72]) ?_; simp only [go_sem, Nat.reduceBEq, Nat.reduceAdd, Nat.reduceMul, Nat.reduceSub, Nat.reduceLeDiff, Int.reduceAdd, Int.reduceSub, Int.reduceMul, Int.reduceLE, Int.reduceLT, Int.reduceEq, Int.reduceNeg, Int.reduceToNat, Int.reduceTDiv, Int.reduceTMod, reduceIte, Nat.reduceEqDiff, Nat.reducePow, Int.reducePow, Tryz.results72]
  (first | with_reducible refine gO_not ?_ ?_ | with_reducible refine gT_not ?_ ?_ | refine gO_split ?_ ?_ | refine gT_split ?_ ?_) <;> intro h <;> simp only [go_sem, Nat.reduceBEq, Nat.reduceAdd, Nat.reduceMul, Nat.reduceSub, Nat.reduceLeDiff, Int.reduceAdd, Int.reduceSub, Int.reduceMul, Int.reduceLE, Int.reduceLT, Int.reduceEq, Int.reduceNeg, Int.reduceToNat, Int.reduceTDiv, Int.reduceTMod, reduceIte, Nat.reduceEqDiff, Nat.reducePow, Int.reducePow, h]
  · (first | with_reducible refine condW_not ?_ ?_ | refine condW_split ?_ ?_) <;> intro h2 <;> simp only [go_sem, Nat.reduceBEq, Nat.reduceAdd, Nat.reduceMul, Nat.reduceSub, Nat.reduceLeDiff, Int.reduceAdd, Int.reduceSub, Int.reduceMul, Int.reduceLE, Int.reduceLT, Int.reduceEq, Int.reduceNeg, Int.reduceToNat, Int.reduceTDiv, Int.reduceTMod, reduceIte, Nat.reduceEqDiff, Nat.reducePow, Int.reducePow, h2]
    · simp [readV, readErr, toProp h2]
    · have h1 := toNot h
      have h3 := toNot h2
      refine callK_pf (p_inside s a w hs (by omega) (by omega)) (by first | (simp only [go_sem, Nat.reduceBEq, Nat.reduceAdd, Nat.reduceMul, Nat.reduceSub, Nat.reduceLeDiff, Int.reduceAdd, Int.reduceSub, Int.reduceMul, Int.reduceLE, Int.reduceLT, Int.reduceEq, Int.reduceNeg, Int.reduceToNat, Int.reduceTDiv, Int.reduceTMod, reduceIte, Nat.reduceEqDiff, Nat.reducePow, Int.reducePow]; done) | (simp only [go_sem, Nat.reduceBEq, Nat.reduceAdd, Nat.reduceMul, Nat.reduceSub, Nat.reduceLeDiff, Int.reduceAdd, Int.reduceSub, Int.reduceMul, Int.reduceLE, Int.reduceLT, Int.reduceEq, Int.reduceNeg, Int.reduceToNat, Int.reduceTDiv, Int.reduceTMod, reduceIte, Nat.reduceEqDiff, Nat.reducePow, Int.reducePow]; rfl) | rfl) ?_; simp only [go_sem, Nat.reduceBEq, Nat.reduceAdd, Nat.reduceMul, Nat.reduceSub, Nat.reduceLeDiff, Int.reduceAdd, Int.reduceSub, Int.reduceMul, Int.reduceLE, Int.reduceLT, Int.reduceEq, Int.reduceNeg, Int.reduceToNat, Int.reduceTDiv, Int.reduceTMod, reduceIte, Nat.reduceEqDiff, Nat.reducePow, Int.reducePow]
      (first | with_reducible refine condW_not ?_ ?_ | refine condW_split ?_ ?_) <;> intro h4 <;> simp only [go_sem, Nat.reduceBEq, Nat.reduceAdd, Nat.reduceMul, Nat.reduceSub, Nat.reduceLeDiff, Int.reduceAdd, Int.reduceSub, Int.reduceMul, Int.reduceLE, Int.reduceLT, Int.reduceEq, Int.reduceNeg, Int.reduceToNat, Int.reduceTDiv, Int.reduceTMod, reduceIte, Nat.reduceEqDiff, Nat.reducePow, Int.reducePow, h4]
      · simp [readV, readErr, h1, h3, h4]
      · have hin : 0 ≤ a ∧ a ≤ s.length - w := by simpa [insideB] using h4
        have hpl : (partOf s a w).length = w.toNat := by simp [partOf]; omega
        refine wpc_loop Nat (fun i => [(0, .d (.str s)), (1, .d (.int .i64 a)), (3, .d (.func 86)), (8, .d (.int .i64 0)), (9, .d (.int .i64 0)), (10, .d (.int .u64 (readN ((partOf s a w).take i) : Nat))), (25, .d (.int .i64 w)), (26, .d (.int .i64 i))]) (fun i => []) (fun i => i ≤ w.toNat) (fun i => w.toNat - i) 0
          (.refl _ _) (fun i hi => ⟨Nat.zero_le _, rfl, rfl⟩) (Nat.zero_le _) rfl ?_ ?_
        · simp only [go_sem, Nat.reduceBEq, Nat.reduceAdd, Nat.reduceMul, Nat.reduceSub, Nat.reduceLeDiff, Int.reduceAdd, Int.reduceSub, Int.reduceMul, Int.reduceLE, Int.reduceLT, Int.reduceEq, Int.reduceNeg, Int.reduceToNat, Int.reduceTDiv, Int.reduceTMod, reduceIte, Nat.reduceEqDiff, Nat.reducePow, Int.reducePow, Int.natCast_zero, readN]
        intro i e hi ⟨g0, g1, g3, g8, g9, g10, g25, g26, _⟩
        simp only [go_sem, Nat.reduceBEq, Nat.reduceAdd, Nat.reduceMul, Nat.reduceSub, Nat.reduceLeDiff, Int.reduceAdd, Int.reduceSub, Int.reduceMul, Int.reduceLE, Int.reduceLT, Int.reduceEq, Int.reduceNeg, Int.reduceToNat, Int.reduceTDiv, Int.reduceTMod, reduceIte, Nat.reduceEqDiff, Nat.reducePow, Int.reducePow, g0, g1, g3, g8, g9, g10, g25, g26]
        (first | with_reducible refine condW_not ?_ ?_ | refine condW_split ?_ ?_) <;> intro h5 <;> simp only [go_sem, Nat.reduceBEq, Nat.reduceAdd, Nat.reduceMul, Nat.reduceSub, Nat.reduceLeDiff, Int.reduceAdd, Int.reduceSub, Int.reduceMul, Int.reduceLE, Int.reduceLT, Int.reduceEq, Int.reduceNeg, Int.reduceToNat, Int.reduceTDiv, Int.reduceTMod, reduceIte, Nat.reduceEqDiff, Nat.reducePow, Int.reducePow, g0, g1, g3, g8, g9, g10, g25, g26, h5]
        · have hlt : (i : Int) < w := toProp h5
          refine callK_pf (p_up1 i) (by first | (simp only [go_sem, Nat.reduceBEq, Nat.reduceAdd, Nat.reduceMul, Nat.reduceSub, Nat.reduceLeDiff, Int.reduceAdd, Int.reduceSub, Int.reduceMul, Int.reduceLE, Int.reduceLT, Int.reduceEq, Int.reduceNeg, Int.reduceToNat, Int.reduceTDiv, Int.reduceTMod, reduceIte, Nat.reduceEqDiff, Nat.reducePow, Int.reducePow]; done) | (simp only [go_sem, Nat.reduceBEq, Nat.reduceAdd, Nat.reduceMul, Nat.reduceSub, Nat.reduceLeDiff, Int.reduceAdd, Int.reduceSub, Int.reduceMul, Int.reduceLE, Int.reduceLT, Int.reduceEq, Int.reduceNeg, Int.reduceToNat, Int.reduceTDiv, Int.reduceTMod, reduceIte, Nat.reduceEqDiff, Nat.reducePow, Int.reducePow]; rfl) | rfl) ?_; simp only [go_sem, Nat.reduceBEq, Nat.reduceAdd, Nat.reduceMul, Nat.reduceSub, Nat.reduceLeDiff, Int.reduceAdd, Int.reduceSub, Int.reduceMul, Int.reduceLE, Int.reduceLT, Int.reduceEq, Int.reduceNeg, Int.reduceToNat, Int.reduceTDiv, Int.reduceTMod, reduceIte, Nat.reduceEqDiff, Nat.reducePow, Int.reducePow, g0, g1, g3, g8, g9, g10, g25, g26]
          rw [wrap_i64 (n := a + (i : Int)) (by omega) (by omega), wrap_i64 (n := 8 * (i : Int)) (by omega) (by omega)]
          have hlt' : i < w.toNat := by omega
          have hi2 : i < (partOf s a w).length := by omega
          have hg : s[(a + (i : Int)).toNat]'(by omega) = (partOf s a w)[i] := by
            simp only [partOf, List.getElem_take, List.getElem_drop]
            congr 1
            omega
          have hlt2 : readN ((partOf s a w).take i) < 256 ^ i := by
            have := readN_lt ((partOf s a w).take i)
            rwa [List.length_take, Nat.min_eq_left (by omega)] at this
          refine ⟨⟨by omega, by omega⟩, by omega, i + 1, by omega, by omega, ⟨_, rfl⟩, ?_, by rw [wrap_i64 (by omega) (by omega)]; rfl⟩
          rw [hg, or_step _ _ _ (by omega) hlt2, List.take_succ_eq_append_getElem hi2, readN_snoc, List.length_take, Nat.min_eq_left (by omega)]
        · have : i = w.toNat := by have := toNot h5; omega
          subst this
          have ht : (partOf s a w).take w.toNat = partOf s a w := List.take_of_length_le (by omega)
          rw [ht] at g10
          rw [ht]
          (first | with_reducible refine condW_not ?_ ?_ | refine condW_split ?_ ?_) <;> intro h6 <;> simp only [go_sem, Nat.reduceBEq, Nat.reduceAdd, Nat.reduceMul, Nat.reduceSub, Nat.reduceLeDiff, Int.reduceAdd, Int.reduceSub, Int.reduceMul, Int.reduceLE, Int.reduceLT, Int.reduceEq, Int.reduceNeg, Int.reduceToNat, Int.reduceTDiv, Int.reduceTMod, reduceIte, Nat.reduceEqDiff, Nat.reducePow, Int.reducePow, g0, g1, g3, g8, g9, g10, g25, g26, h6]
          · have := toProp h6
            have hh : ¬ readN (partOf s a w) ≤ 9223372036854775807 := by omega
            simp [readV, readErr, h1, h3, h4, hh]
          · have := toNot h6
            have hh : readN (partOf s a w) ≤ 9223372036854775807 := by omega
            rw [wrap_i64 (by omega) (by omega)]
            simp [readV, readErr, h1, h3, h4, hh]
  · simp [readV, readErr, toProp h]
theorem p_readLittle (s : List UInt8) (a w : Int) (hs : s.length < 2 ^ 40) : PF Tryz.prog G 41 [.str s, .int .i64 a, .int .i64 w] (readV s a w) := by
  refine PF.of_body mo Tryz.func41 rfl (by kernel_rfl) (by kernel_rfl) (by simp [Tryz.ntmps41]) ?_; simp only [go_sem, Nat.reduceBEq, Nat.reduceAdd, Nat.reduceMul, Nat.reduceSub, Nat.reduceLeDiff, Int.reduceAdd, Int.reduceSub, Int.reduceMul, Int.reduceLE, Int.reduceLT, Int.reduceEq, Int.reduceNeg, Int.reduceToNat, Int.reduceTDiv, Int.reduceTMod, reduceIte, Nat.reduceEqDiff, Nat.reducePow, Int.reducePow, Tryz.results41]
  refine callK_pf (p_up w) (by first | (simp only [go_sem, Nat.reduceBEq, Nat.reduceAdd, Nat.reduceMul, Nat.reduceSub, Nat.reduceLeDiff, Int.reduceAdd, Int.reduceSub, Int.reduceMul, Int.reduceLE, Int.reduceLT, Int.reduceEq, Int.reduceNeg, Int.reduceToNat, Int.reduceTDiv, Int.reduceTMod, reduceIte, Nat.reduceEqDiff, Nat.reducePow, Int.reducePow]; done) | (simp only [go_sem, Nat.reduceBEq, Nat.reduceAdd, Nat.reduceMul, Nat.reduceSub, Nat.reduceLeDiff, Int.reduceAdd, Int.reduceSub, Int.reduceMul, Int.reduceLE, Int.reduceLT, Int.reduceEq, Int.reduceNeg, Int.reduceToNat, Int.reduceTDiv, Int.reduceTMod, reduceIte, Nat.reduceEqDiff, Nat.reducePow, Int.reducePow]; rfl) | rfl) ?_; simp only [go_sem, Nat.reduceBEq, Nat.reduceAdd, Nat.reduceMul, Nat.reduceSub, Nat.reduceLeDiff, Int.reduceAdd, Int.reduceSub, Int.reduceMul, Int.reduceLE, Int.reduceLT, Int.reduceEq, Int.reduceNeg, Int.reduceToNat, Int.reduceTDiv, Int.reduceTMod, reduceIte, Nat.reduceEqDiff, Nat.reducePow, Int.reducePow]
  refine callK_pf (p_read s a w hs) (by first | (simp only [go_sem, Nat.reduceBEq, Nat.reduceAdd, Nat.reduceMul, Nat.reduceSub, Nat.reduceLeDiff, Int.reduceAdd, Int.reduceSub, Int.reduceMul, Int.reduceLE, Int.reduceLT, Int.reduceEq, Int.reduceNeg, Int.reduceToNat, Int.reduceTDiv, Int.reduceTMod, reduceIte, Nat.reduceEqDiff, Nat.reducePow, Int.reducePow]; done) | (simp only [go_sem, Nat.reduceBEq, Nat.reduceAdd, Nat.reduceMul, Nat.reduceSub, Nat.reduceLeDiff, Int.reduceAdd, Int.reduceSub, Int.reduceMul, Int.reduceLE, Int.reduceLT, Int.reduceEq, Int.reduceNeg, Int.reduceToNat, Int.reduceTDiv, Int.reduceTMod, reduceIte, Nat.reduceEqDiff, Nat.reducePow, Int.reducePow]; rfl) | rfl) ?_; simp only [go_sem, Nat.reduceBEq, Nat.reduceAdd, Nat.reduceMul, Nat.reduceSub, Nat.reduceLeDiff, Int.reduceAdd, Int.reduceSub, Int.reduceMul, Int.reduceLE, Int.reduceLT, Int.reduceEq, Int.reduceNeg, Int.reduceToNat, Int.reduceTDiv, Int.reduceTMod, reduceIte, Nat.reduceEqDiff, Nat.reducePow, Int.reducePow]
  unfold readV
  simp only [go_sem, Nat.reduceBEq, Nat.reduceAdd, Nat.reduceMul, Nat.reduceSub, Nat.reduceLeDiff, Int.reduceAdd, Int.reduceSub, Int.reduceMul, Int.reduceLE, Int.reduceLT, Int.reduceEq, Int.reduceNeg, Int.reduceToNat, Int.reduceTDiv, Int.reduceTMod, reduceIte, Nat.reduceEqDiff, Nat.reducePow, Int.reducePow]
end Go.Proofs.YtjmldlknegbimaaGreatDoor.Sx
