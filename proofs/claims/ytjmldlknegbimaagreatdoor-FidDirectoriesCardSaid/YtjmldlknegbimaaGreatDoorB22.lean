/- The reference's Streams, Names, Few and Fids; slices.Equal of strings. -/
import Derived.Test.YtjmldlknegbimaaGreatDoorB21
set_option linter.unusedVariables false
set_option linter.unusedSimpArgs false
namespace Go.Proofs.YtjmldlknegbimaaGreatDoor.Sx
open Go Go.RowKit
variable {G : Gl}
def fewF (l : List Ent) (m : Int) : Bool := !l.any (fun f => decide (400 < (f.name.length : Int))) && decide ((l.length : Int) ≤ m)
theorem p_fewF (l : List Ent) (m : Int) (hl : l.length < 2 ^ 63) : PF Tryz.prog G 13 [.sl .any (l.map entEl), .int .i64 m] (.bool (fewF l m)) := by
  refine PF.of_body mo Tryz.func13 rfl (by kernel_rfl) (by kernel_rfl) (by simp [Tryz.ntmps13]) ?_; simp only [go_sem, Nat.reduceBEq, Nat.reduceAdd, Nat.reduceMul, Nat.reduceSub, Nat.reduceLeDiff, Int.reduceAdd, Int.reduceSub, Int.reduceMul, Int.reduceLE, Int.reduceLT, Int.reduceEq, Int.reduceNeg, Int.reduceToNat, Int.reduceTDiv, Int.reduceTMod, reduceIte, Nat.reduceEqDiff, Nat.reducePow, Int.reducePow, Tryz.results13]
  refine wpc_loop Nat (fun i => [(0, .d (.sl .any (l.map entEl))), (1, .d (.int .i64 m)), (5, .d (.int .i64 i))]) (fun i => []) (fun i => i ≤ l.length ∧ ∀ j (h : j < l.length), j < i → decide (400 < (l[j].name.length : Int)) = false) (fun i => l.length - i) 0
    (.refl _ _) (fun i hi => ⟨Nat.zero_le _, rfl, rfl⟩) ⟨Nat.zero_le _, fun j h h2 => by omega⟩ rfl ?_ ?_
  · simp only [go_sem, Nat.reduceBEq, Nat.reduceAdd, Nat.reduceMul, Nat.reduceSub, Nat.reduceLeDiff, Int.reduceAdd, Int.reduceSub, Int.reduceMul, Int.reduceLE, Int.reduceLT, Int.reduceEq, Int.reduceNeg, Int.reduceToNat, Int.reduceTDiv, Int.reduceTMod, reduceIte, Nat.reduceEqDiff, Nat.reducePow, Int.reducePow, Int.natCast_zero]
  intro i e ⟨hi, ha⟩ ⟨g0, g1, g5, _⟩
  simp only [go_sem, Nat.reduceBEq, Nat.reduceAdd, Nat.reduceMul, Nat.reduceSub, Nat.reduceLeDiff, Int.reduceAdd, Int.reduceSub, Int.reduceMul, Int.reduceLE, Int.reduceLT, Int.reduceEq, Int.reduceNeg, Int.reduceToNat, Int.reduceTDiv, Int.reduceTMod, reduceIte, Nat.reduceEqDiff, Nat.reducePow, Int.reducePow, g0, g1, g5]
  (first | with_reducible refine condW_not ?_ ?_ | refine condW_split ?_ ?_) <;> intro h1 <;> simp only [go_sem, Nat.reduceBEq, Nat.reduceAdd, Nat.reduceMul, Nat.reduceSub, Nat.reduceLeDiff, Int.reduceAdd, Int.reduceSub, Int.reduceMul, Int.reduceLE, Int.reduceLT, Int.reduceEq, Int.reduceNeg, Int.reduceToNat, Int.reduceTDiv, Int.reduceTMod, reduceIte, Nat.reduceEqDiff, Nat.reducePow, Int.reducePow, g0, g1, g5, h1]
  · have hlt : i < l.length := by have := toProp h1; omega
    refine ⟨⟨by omega, by omega⟩, ?_⟩
    simp only [go_sem, Nat.reduceBEq, Nat.reduceAdd, Nat.reduceMul, Nat.reduceSub, Nat.reduceLeDiff, Int.reduceAdd, Int.reduceSub, Int.reduceMul, Int.reduceLE, Int.reduceLT, Int.reduceEq, Int.reduceNeg, Int.reduceToNat, Int.reduceTDiv, Int.reduceTMod, reduceIte, Nat.reduceEqDiff, Nat.reducePow, Int.reducePow, g0, g1, g5, entEl]
    (first | with_reducible refine condW_not ?_ ?_ | refine condW_split ?_ ?_) <;> intro h2 <;> simp only [go_sem, Nat.reduceBEq, Nat.reduceAdd, Nat.reduceMul, Nat.reduceSub, Nat.reduceLeDiff, Int.reduceAdd, Int.reduceSub, Int.reduceMul, Int.reduceLE, Int.reduceLT, Int.reduceEq, Int.reduceNeg, Int.reduceToNat, Int.reduceTDiv, Int.reduceTMod, reduceIte, Nat.reduceEqDiff, Nat.reducePow, Int.reducePow, g0, g1, g5, entEl, h2]
    · have : l.any (fun f => decide (400 < (f.name.length : Int))) = true := List.any_eq_true.2 ⟨l[i], by simp, h2⟩
      rw [fewF, this]; rfl
    · refine ⟨i + 1, ⟨by omega, fun j h hj => ?_⟩, by omega, ⟨_, rfl⟩, by rw [wrap_i64 (by omega) (by omega)]; rfl⟩
      rcases Nat.lt_or_ge j i with h3 | h3
      · exact ha j h h3
      · have : j = i := by omega
        subst this; exact h2
  · have hn : l.any (fun f => decide (400 < (f.name.length : Int))) = false := by
      rw [List.any_eq_false]
      intro x hx
      obtain ⟨j, hj, rfl⟩ := List.mem_iff_getElem.1 hx
      rw [ha j hj (by have := toNot h1; omega)]; decide
    rw [fewF, hn]; rfl
theorem fewF_len {l : List Ent} {m : Int} (h : fewF l m = true) : (l.length : Int) ≤ m := by
  unfold fewF at h
  rw [Bool.and_eq_true] at h
  exact toProp h.2
theorem fewF_name {l : List Ent} {m : Int} (h : fewF l m = true) : ∀ f ∈ l, f.name.length ≤ 400 := by
  unfold fewF at h
  rw [Bool.and_eq_true, Bool.not_eq_true', List.any_eq_false] at h
  intro f hf
  have := h.1 f hf
  simp at this
  omega
set_option maxRecDepth 8000 in
theorem p_fids (l m : List Ent) (hl : l.length < 2 ^ 62) : PF Tryz.prog G 18 [.sl .any (l.map entEl), .sl .any (m.map entEl)] (.bool (decide (l = m))) := by
  refine PF.of_body mo Tryz.func18 rfl (by kernel_rfl) (by kernel_rfl) (by simp [Tryz.ntmps18]) ?_; simp only [go_sem, Nat.reduceBEq, Nat.reduceAdd, Nat.reduceMul, Nat.reduceSub, Nat.reduceLeDiff, Int.reduceAdd, Int.reduceSub, Int.reduceMul, Int.reduceLE, Int.reduceLT, Int.reduceEq, Int.reduceNeg, Int.reduceToNat, Int.reduceTDiv, Int.reduceTMod, reduceIte, Nat.reduceEqDiff, Nat.reducePow, Int.reducePow, Tryz.results18]
  (first | with_reducible refine condW_not ?_ ?_ | refine condW_split ?_ ?_) <;> intro h <;> simp only [go_sem, Nat.reduceBEq, Nat.reduceAdd, Nat.reduceMul, Nat.reduceSub, Nat.reduceLeDiff, Int.reduceAdd, Int.reduceSub, Int.reduceMul, Int.reduceLE, Int.reduceLT, Int.reduceEq, Int.reduceNeg, Int.reduceToNat, Int.reduceTDiv, Int.reduceTMod, reduceIte, Nat.reduceEqDiff, Nat.reducePow, Int.reducePow, h]
  · have : l ≠ m := fun hc => by have := toNot h; rw [hc] at this; exact this rfl
    simp [this]
  · have hlm : l.length = m.length := by have := toProp h; omega
    refine wpc_loop Nat (fun i => [(0, .d (.sl .any (l.map entEl))), (1, .d (.sl .any (m.map entEl))), (5, .d (.int .i64 i))]) (fun i => []) (fun i => i ≤ l.length ∧ l.take i = m.take i) (fun i => l.length - i) 0
      (.refl _ _) (fun i hi => ⟨Nat.zero_le _, rfl, rfl⟩) ⟨Nat.zero_le _, rfl⟩ rfl ?_ ?_
    · simp only [go_sem, Nat.reduceBEq, Nat.reduceAdd, Nat.reduceMul, Nat.reduceSub, Nat.reduceLeDiff, Int.reduceAdd, Int.reduceSub, Int.reduceMul, Int.reduceLE, Int.reduceLT, Int.reduceEq, Int.reduceNeg, Int.reduceToNat, Int.reduceTDiv, Int.reduceTMod, reduceIte, Nat.reduceEqDiff, Nat.reducePow, Int.reducePow, Int.natCast_zero]
    intro i e ⟨hi, ha⟩ ⟨g0, g1, g5, _⟩
    simp only [go_sem, Nat.reduceBEq, Nat.reduceAdd, Nat.reduceMul, Nat.reduceSub, Nat.reduceLeDiff, Int.reduceAdd, Int.reduceSub, Int.reduceMul, Int.reduceLE, Int.reduceLT, Int.reduceEq, Int.reduceNeg, Int.reduceToNat, Int.reduceTDiv, Int.reduceTMod, reduceIte, Nat.reduceEqDiff, Nat.reducePow, Int.reducePow, g0, g1, g5, entEl]
    (first | with_reducible refine condW_not ?_ ?_ | refine condW_split ?_ ?_) <;> intro h2 <;> simp only [go_sem, Nat.reduceBEq, Nat.reduceAdd, Nat.reduceMul, Nat.reduceSub, Nat.reduceLeDiff, Int.reduceAdd, Int.reduceSub, Int.reduceMul, Int.reduceLE, Int.reduceLT, Int.reduceEq, Int.reduceNeg, Int.reduceToNat, Int.reduceTDiv, Int.reduceTMod, reduceIte, Nat.reduceEqDiff, Nat.reducePow, Int.reducePow, g0, g1, g5, entEl, h2]
    · have hlt : i < l.length := by have := toProp h2; omega
      have hm' : i < m.length := by omega
      refine ⟨⟨by omega, by omega⟩, ⟨by omega, by omega⟩, by kernel_rfl, ?_⟩
      (first | with_reducible refine condW_not ?_ ?_ | refine condW_split ?_ ?_) <;> intro h3 <;> simp only [go_sem, Nat.reduceBEq, Nat.reduceAdd, Nat.reduceMul, Nat.reduceSub, Nat.reduceLeDiff, Int.reduceAdd, Int.reduceSub, Int.reduceMul, Int.reduceLE, Int.reduceLT, Int.reduceEq, Int.reduceNeg, Int.reduceToNat, Int.reduceTDiv, Int.reduceTMod, reduceIte, Nat.reduceEqDiff, Nat.reducePow, Int.reducePow, g0, g1, g5, entEl, h3]
      · have : l ≠ m := fun hc => by
          subst hc
          simp at h3
        simp [this]
      · have he : l[i] = m[i] := by
          simp only [Bool.and_eq_true, beq_iff_eq, decide_eq_true_eq] at h3
          generalize l[i] = x at h3 ⊢
          generalize m[i] = y at h3 ⊢
          obtain ⟨x1, x2, x3, x4, x5, x6, x7, x8, x9⟩ := x
          obtain ⟨y1, y2, y3, y4, y5, y6, y7, y8, y9⟩ := y
          simp_all
        refine ⟨i + 1, ⟨by omega, ?_⟩, by omega, ⟨_, rfl⟩, by rw [wrap_i64 (by omega) (by omega)]; rfl⟩
        rw [List.take_succ_eq_append_getElem hlt, List.take_succ_eq_append_getElem hm', ha, he]
    · have : i = l.length := by have := toNot h2; omega
      subst this
      have : l = m := by rwa [List.take_length, hlm, List.take_length] at ha
      simp [this]
end Go.Proofs.YtjmldlknegbimaaGreatDoor.Sx
