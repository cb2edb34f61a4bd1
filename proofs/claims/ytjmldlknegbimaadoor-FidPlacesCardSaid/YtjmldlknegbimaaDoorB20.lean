/- few (of the laws of chapter 42); slices.Equal of addresses. -/
import Derived.Test.YtjmldlknegbimaaDoorB19
set_option linter.unusedVariables false
set_option linter.unusedSimpArgs false
namespace Go.Proofs.YtjmldlknegbimaaDoor.Sx
open Go Go.RowKit
variable {G : Gl}
def bigS (s : Strm) : Bool := decide (400 < (s.name.length : Int)) || decide (400 < (s.data.length : Int))
theorem p_few1 (s : Strm) : PF Tryd.prog G 63 [.agg (stEl s)] (.bool (bigS s)) := by
  refine PF.of_body mo Tryd.func63 rfl (by kernel_rfl) (by kernel_rfl) (by simp [Tryd.ntmps63]) ?_; simp only [go_sem, Nat.reduceBEq, Nat.reduceAdd, Nat.reduceMul, Nat.reduceSub, Nat.reduceLeDiff, Int.reduceAdd, Int.reduceSub, Int.reduceMul, Int.reduceLE, Int.reduceLT, Int.reduceEq, Int.reduceNeg, Int.reduceToNat, Int.reduceTDiv, Int.reduceTMod, reduceIte, Nat.reduceEqDiff, Nat.reducePow, Int.reducePow, Tryd.results63]
  simp only [go_sem, Nat.reduceBEq, Nat.reduceAdd, Nat.reduceMul, Nat.reduceSub, Nat.reduceLeDiff, Int.reduceAdd, Int.reduceSub, Int.reduceMul, Int.reduceLE, Int.reduceLT, Int.reduceEq, Int.reduceNeg, Int.reduceToNat, Int.reduceTDiv, Int.reduceTMod, reduceIte, Nat.reduceEqDiff, Nat.reducePow, Int.reducePow, stEl]
  (first | with_reducible refine gO_not ?_ ?_ | with_reducible refine gT_not ?_ ?_ | refine gO_split ?_ ?_ | refine gT_split ?_ ?_) <;> intro h1 <;> simp only [go_sem, Nat.reduceBEq, Nat.reduceAdd, Nat.reduceMul, Nat.reduceSub, Nat.reduceLeDiff, Int.reduceAdd, Int.reduceSub, Int.reduceMul, Int.reduceLE, Int.reduceLT, Int.reduceEq, Int.reduceNeg, Int.reduceToNat, Int.reduceTDiv, Int.reduceTMod, reduceIte, Nat.reduceEqDiff, Nat.reducePow, Int.reducePow, stEl, h1]
  · simp [bigS, h1]
  · simp [bigS, h1]
def idxS (l : List Strm) : Int := if l.any bigS = true then (l.findIdx bigS : Int) else -1
theorem idxS_pos (l : List Strm) : decide (0 ≤ idxS l) = l.any bigS := by
  unfold idxS
  cases l.any bigS <;> simp
set_option maxRecDepth 4000 in
theorem p_indexS (l : List Strm) (hl : l.length < 2 ^ 62) : PF Tryd.prog G 100 [.sl .any (l.map stEl), .func 63] (.int .i64 (idxS l)) := by
  refine PF.of_body mo Tryd.func100 rfl (by kernel_rfl) (by kernel_rfl) (by simp [Tryd.ntmps100]) ?_; simp only [go_sem, Nat.reduceBEq, Nat.reduceAdd, Nat.reduceMul, Nat.reduceSub, Nat.reduceLeDiff, Int.reduceAdd, Int.reduceSub, Int.reduceMul, Int.reduceLE, Int.reduceLT, Int.reduceEq, Int.reduceNeg, Int.reduceToNat, Int.reduceTDiv, Int.reduceTMod, reduceIte, Nat.reduceEqDiff, Nat.reducePow, Int.reducePow, Tryd.results100]
  refine wpc_loop Nat (fun i => [(0, .d (.sl .any (l.map stEl))), (1, .d (.func 63)), (7, .d (.int .i64 l.length)), (8, .d (.int .i64 i))]) (fun i => []) (fun i => i ≤ l.length ∧ ∀ j (h : j < l.length), j < i → bigS l[j] = false) (fun i => l.length - i) 0
    (.refl _ _) (fun i hi => ⟨Nat.zero_le _, rfl, rfl⟩) ⟨Nat.zero_le _, fun j h h2 => by omega⟩ rfl ?_ ?_
  · simp only [go_sem, Nat.reduceBEq, Nat.reduceAdd, Nat.reduceMul, Nat.reduceSub, Nat.reduceLeDiff, Int.reduceAdd, Int.reduceSub, Int.reduceMul, Int.reduceLE, Int.reduceLT, Int.reduceEq, Int.reduceNeg, Int.reduceToNat, Int.reduceTDiv, Int.reduceTMod, reduceIte, Nat.reduceEqDiff, Nat.reducePow, Int.reducePow]
    rfl
  intro i e ⟨hi, ha⟩ ⟨g0, g1, g7, g8, _⟩
  simp only [go_sem, Nat.reduceBEq, Nat.reduceAdd, Nat.reduceMul, Nat.reduceSub, Nat.reduceLeDiff, Int.reduceAdd, Int.reduceSub, Int.reduceMul, Int.reduceLE, Int.reduceLT, Int.reduceEq, Int.reduceNeg, Int.reduceToNat, Int.reduceTDiv, Int.reduceTMod, reduceIte, Nat.reduceEqDiff, Nat.reducePow, Int.reducePow, g0, g1, g7, g8]
  (first | with_reducible refine condW_not ?_ ?_ | refine condW_split ?_ ?_) <;> intro h1 <;> simp only [go_sem, Nat.reduceBEq, Nat.reduceAdd, Nat.reduceMul, Nat.reduceSub, Nat.reduceLeDiff, Int.reduceAdd, Int.reduceSub, Int.reduceMul, Int.reduceLE, Int.reduceLT, Int.reduceEq, Int.reduceNeg, Int.reduceToNat, Int.reduceTDiv, Int.reduceTMod, reduceIte, Nat.reduceEqDiff, Nat.reducePow, Int.reducePow, g0, g1, g7, g8, h1]
  · have hlt : i < l.length := by have := toProp h1; omega
    refine ⟨⟨by omega, by omega⟩, ?_⟩
    refine callK_pf (p_few1 l[i]) (by first | (simp only [go_sem, Nat.reduceBEq, Nat.reduceAdd, Nat.reduceMul, Nat.reduceSub, Nat.reduceLeDiff, Int.reduceAdd, Int.reduceSub, Int.reduceMul, Int.reduceLE, Int.reduceLT, Int.reduceEq, Int.reduceNeg, Int.reduceToNat, Int.reduceTDiv, Int.reduceTMod, reduceIte, Nat.reduceEqDiff, Nat.reducePow, Int.reducePow]; done) | (simp only [go_sem, Nat.reduceBEq, Nat.reduceAdd, Nat.reduceMul, Nat.reduceSub, Nat.reduceLeDiff, Int.reduceAdd, Int.reduceSub, Int.reduceMul, Int.reduceLE, Int.reduceLT, Int.reduceEq, Int.reduceNeg, Int.reduceToNat, Int.reduceTDiv, Int.reduceTMod, reduceIte, Nat.reduceEqDiff, Nat.reducePow, Int.reducePow]; rfl) | rfl) ?_; simp only [go_sem, Nat.reduceBEq, Nat.reduceAdd, Nat.reduceMul, Nat.reduceSub, Nat.reduceLeDiff, Int.reduceAdd, Int.reduceSub, Int.reduceMul, Int.reduceLE, Int.reduceLT, Int.reduceEq, Int.reduceNeg, Int.reduceToNat, Int.reduceTDiv, Int.reduceTMod, reduceIte, Nat.reduceEqDiff, Nat.reducePow, Int.reducePow, g0, g1, g7, g8]
    (first | with_reducible refine condW_not ?_ ?_ | refine condW_split ?_ ?_) <;> intro h2 <;> simp only [go_sem, Nat.reduceBEq, Nat.reduceAdd, Nat.reduceMul, Nat.reduceSub, Nat.reduceLeDiff, Int.reduceAdd, Int.reduceSub, Int.reduceMul, Int.reduceLE, Int.reduceLT, Int.reduceEq, Int.reduceNeg, Int.reduceToNat, Int.reduceTDiv, Int.reduceTMod, reduceIte, Nat.reduceEqDiff, Nat.reducePow, Int.reducePow, g0, g1, g7, g8, h2]
    · have hany : l.any bigS = true := List.any_eq_true.2 ⟨l[i], by simp, h2⟩
      have hidx : l.findIdx bigS = i := (List.findIdx_eq hlt).2 ⟨h2, fun j hj => ha j (by omega) hj⟩
      rw [idxS, if_pos hany, hidx]
    · exact ⟨i + 1, ⟨by omega, fun j h hj => by
        rcases Nat.lt_or_ge j i with h3 | h3
        · exact ha j h h3
        · have : j = i := by omega
          subst this; exact h2⟩, by omega, ⟨_, rfl⟩, by rw [wrap_i64 (by omega) (by omega)]; rfl⟩
  · have hn : l.any bigS = false := by
      rw [List.any_eq_false]
      intro x hx
      obtain ⟨j, hj, rfl⟩ := List.mem_iff_getElem.1 hx
      rw [ha j hj (by have := toNot h1; omega)]; decide
    rw [idxS, if_neg (by rw [hn]; decide)]
theorem p_containsS (l : List Strm) (hl : l.length < 2 ^ 62) : PF Tryd.prog G 62 [.sl .any (l.map stEl), .func 63] (.bool (l.any bigS)) := by
  refine PF.of_body mo Tryd.func62 rfl (by kernel_rfl) (by kernel_rfl) (by simp [Tryd.ntmps62]) ?_; simp only [go_sem, Nat.reduceBEq, Nat.reduceAdd, Nat.reduceMul, Nat.reduceSub, Nat.reduceLeDiff, Int.reduceAdd, Int.reduceSub, Int.reduceMul, Int.reduceLE, Int.reduceLT, Int.reduceEq, Int.reduceNeg, Int.reduceToNat, Int.reduceTDiv, Int.reduceTMod, reduceIte, Nat.reduceEqDiff, Nat.reducePow, Int.reducePow, Tryd.results62]
  refine callK_pf (p_indexS l hl) (by first | (simp only [go_sem, Nat.reduceBEq, Nat.reduceAdd, Nat.reduceMul, Nat.reduceSub, Nat.reduceLeDiff, Int.reduceAdd, Int.reduceSub, Int.reduceMul, Int.reduceLE, Int.reduceLT, Int.reduceEq, Int.reduceNeg, Int.reduceToNat, Int.reduceTDiv, Int.reduceTMod, reduceIte, Nat.reduceEqDiff, Nat.reducePow, Int.reducePow]; done) | (simp only [go_sem, Nat.reduceBEq, Nat.reduceAdd, Nat.reduceMul, Nat.reduceSub, Nat.reduceLeDiff, Int.reduceAdd, Int.reduceSub, Int.reduceMul, Int.reduceLE, Int.reduceLT, Int.reduceEq, Int.reduceNeg, Int.reduceToNat, Int.reduceTDiv, Int.reduceTMod, reduceIte, Nat.reduceEqDiff, Nat.reducePow, Int.reducePow]; rfl) | rfl) ?_; simp only [go_sem, Nat.reduceBEq, Nat.reduceAdd, Nat.reduceMul, Nat.reduceSub, Nat.reduceLeDiff, Int.reduceAdd, Int.reduceSub, Int.reduceMul, Int.reduceLE, Int.reduceLT, Int.reduceEq, Int.reduceNeg, Int.reduceToNat, Int.reduceTDiv, Int.reduceTMod, reduceIte, Nat.reduceEqDiff, Nat.reducePow, Int.reducePow]
  rw [idxS_pos]
def fewS (l : List Strm) : Bool := decide ((l.length : Int) ≤ 8) && !l.any bigS
theorem p_few42 (l : List Strm) : PF Tryd.prog G 23 [.sl .any (l.map stEl)] (.bool (fewS l)) := by
  refine PF.of_body mo Tryd.func23 rfl (by kernel_rfl) (by kernel_rfl) (by simp [Tryd.ntmps23]) ?_; simp only [go_sem, Nat.reduceBEq, Nat.reduceAdd, Nat.reduceMul, Nat.reduceSub, Nat.reduceLeDiff, Int.reduceAdd, Int.reduceSub, Int.reduceMul, Int.reduceLE, Int.reduceLT, Int.reduceEq, Int.reduceNeg, Int.reduceToNat, Int.reduceTDiv, Int.reduceTMod, reduceIte, Nat.reduceEqDiff, Nat.reducePow, Int.reducePow, Tryd.results23]
  (first | with_reducible refine gO_not ?_ ?_ | with_reducible refine gT_not ?_ ?_ | refine gO_split ?_ ?_ | refine gT_split ?_ ?_) <;> intro h1 <;> simp only [go_sem, Nat.reduceBEq, Nat.reduceAdd, Nat.reduceMul, Nat.reduceSub, Nat.reduceLeDiff, Int.reduceAdd, Int.reduceSub, Int.reduceMul, Int.reduceLE, Int.reduceLT, Int.reduceEq, Int.reduceNeg, Int.reduceToNat, Int.reduceTDiv, Int.reduceTMod, reduceIte, Nat.reduceEqDiff, Nat.reducePow, Int.reducePow, h1]
  · refine callK_pf (p_containsS l (by have := toProp h1; omega)) (by first | (simp only [go_sem, Nat.reduceBEq, Nat.reduceAdd, Nat.reduceMul, Nat.reduceSub, Nat.reduceLeDiff, Int.reduceAdd, Int.reduceSub, Int.reduceMul, Int.reduceLE, Int.reduceLT, Int.reduceEq, Int.reduceNeg, Int.reduceToNat, Int.reduceTDiv, Int.reduceTMod, reduceIte, Nat.reduceEqDiff, Nat.reducePow, Int.reducePow]; done) | (simp only [go_sem, Nat.reduceBEq, Nat.reduceAdd, Nat.reduceMul, Nat.reduceSub, Nat.reduceLeDiff, Int.reduceAdd, Int.reduceSub, Int.reduceMul, Int.reduceLE, Int.reduceLT, Int.reduceEq, Int.reduceNeg, Int.reduceToNat, Int.reduceTDiv, Int.reduceTMod, reduceIte, Nat.reduceEqDiff, Nat.reducePow, Int.reducePow]; rfl) | rfl) ?_; simp only [go_sem, Nat.reduceBEq, Nat.reduceAdd, Nat.reduceMul, Nat.reduceSub, Nat.reduceLeDiff, Int.reduceAdd, Int.reduceSub, Int.reduceMul, Int.reduceLE, Int.reduceLT, Int.reduceEq, Int.reduceNeg, Int.reduceToNat, Int.reduceTDiv, Int.reduceTMod, reduceIte, Nat.reduceEqDiff, Nat.reducePow, Int.reducePow]
    simp [fewS, h1]
  · simp [fewS, h1]
set_option maxRecDepth 4000 in
theorem p_eqAd (l m : List (Int × Int)) (hl : l.length < 2 ^ 62) : PF Tryd.prog G 31 [.sl .any (l.map adEl), .sl .any (m.map adEl)] (.bool (decide (l = m))) := by
  refine PF.of_body mo Tryd.func31 rfl (by kernel_rfl) (by kernel_rfl) (by simp [Tryd.ntmps31]) ?_; simp only [go_sem, Nat.reduceBEq, Nat.reduceAdd, Nat.reduceMul, Nat.reduceSub, Nat.reduceLeDiff, Int.reduceAdd, Int.reduceSub, Int.reduceMul, Int.reduceLE, Int.reduceLT, Int.reduceEq, Int.reduceNeg, Int.reduceToNat, Int.reduceTDiv, Int.reduceTMod, reduceIte, Nat.reduceEqDiff, Nat.reducePow, Int.reducePow, Tryd.results31]
  (first | with_reducible refine condW_not ?_ ?_ | refine condW_split ?_ ?_) <;> intro h <;> simp only [go_sem, Nat.reduceBEq, Nat.reduceAdd, Nat.reduceMul, Nat.reduceSub, Nat.reduceLeDiff, Int.reduceAdd, Int.reduceSub, Int.reduceMul, Int.reduceLE, Int.reduceLT, Int.reduceEq, Int.reduceNeg, Int.reduceToNat, Int.reduceTDiv, Int.reduceTMod, reduceIte, Nat.reduceEqDiff, Nat.reducePow, Int.reducePow, h]
  · have : l ≠ m := fun hc => by have := toNot h; rw [hc] at this; exact this rfl
    simp [this]
  · have hlm : l.length = m.length := by have := toProp h; omega
    refine wpc_loop Nat (fun i => [(0, .d (.sl .any (l.map adEl))), (1, .d (.sl .any (m.map adEl))), (12, .d (.int .i64 l.length)), (13, .d (.int .i64 i))]) (fun i => []) (fun i => i ≤ l.length ∧ l.take i = m.take i) (fun i => l.length - i) 0
      (.refl _ _) (fun i hi => ⟨Nat.zero_le _, rfl, rfl⟩) ⟨Nat.zero_le _, rfl⟩ rfl ?_ ?_
    · simp only [go_sem, Nat.reduceBEq, Nat.reduceAdd, Nat.reduceMul, Nat.reduceSub, Nat.reduceLeDiff, Int.reduceAdd, Int.reduceSub, Int.reduceMul, Int.reduceLE, Int.reduceLT, Int.reduceEq, Int.reduceNeg, Int.reduceToNat, Int.reduceTDiv, Int.reduceTMod, reduceIte, Nat.reduceEqDiff, Nat.reducePow, Int.reducePow]
      rfl
    intro i e ⟨hi, ha⟩ ⟨g0, g1, g12, g13, _⟩
    simp only [go_sem, Nat.reduceBEq, Nat.reduceAdd, Nat.reduceMul, Nat.reduceSub, Nat.reduceLeDiff, Int.reduceAdd, Int.reduceSub, Int.reduceMul, Int.reduceLE, Int.reduceLT, Int.reduceEq, Int.reduceNeg, Int.reduceToNat, Int.reduceTDiv, Int.reduceTMod, reduceIte, Nat.reduceEqDiff, Nat.reducePow, Int.reducePow, g0, g1, g12, g13, adEl]
    (first | with_reducible refine condW_not ?_ ?_ | refine condW_split ?_ ?_) <;> intro h2 <;> simp only [go_sem, Nat.reduceBEq, Nat.reduceAdd, Nat.reduceMul, Nat.reduceSub, Nat.reduceLeDiff, Int.reduceAdd, Int.reduceSub, Int.reduceMul, Int.reduceLE, Int.reduceLT, Int.reduceEq, Int.reduceNeg, Int.reduceToNat, Int.reduceTDiv, Int.reduceTMod, reduceIte, Nat.reduceEqDiff, Nat.reducePow, Int.reducePow, g0, g1, g12, g13, adEl, h2]
    · have hlt : i < l.length := by have := toProp h2; omega
      have hm' : i < m.length := by omega
      refine ⟨⟨by omega, by omega⟩, ⟨by omega, by omega⟩, by kernel_rfl, ?_⟩
      (first | with_reducible refine condW_not ?_ ?_ | refine condW_split ?_ ?_) <;> intro h3 <;> simp only [go_sem, Nat.reduceBEq, Nat.reduceAdd, Nat.reduceMul, Nat.reduceSub, Nat.reduceLeDiff, Int.reduceAdd, Int.reduceSub, Int.reduceMul, Int.reduceLE, Int.reduceLT, Int.reduceEq, Int.reduceNeg, Int.reduceToNat, Int.reduceTDiv, Int.reduceTMod, reduceIte, Nat.reduceEqDiff, Nat.reducePow, Int.reducePow, g0, g1, g12, g13, adEl, h3]
      · have : l ≠ m := fun hc => by
          subst hc
          simp at h3
        simp [this]
      · have he : l[i] = m[i] := by
          simp only [Bool.and_eq_true, beq_iff_eq, decide_eq_true_eq] at h3
          exact Prod.ext h3.1 (by first | exact h3.2 | exact h3.2.1)
        refine ⟨i + 1, ⟨by omega, ?_⟩, by omega, ⟨_, rfl⟩, by rw [wrap_i64 (by omega) (by omega)]; rfl⟩
        rw [List.take_succ_eq_append_getElem hlt, List.take_succ_eq_append_getElem hm', ha, he]
    · have : i = l.length := by have := toNot h2; omega
      subst this
      have : l = m := by rwa [List.take_length, hlm, List.take_length] at ha
      simp [this]
end Go.Proofs.YtjmldlknegbimaaDoor.Sx
