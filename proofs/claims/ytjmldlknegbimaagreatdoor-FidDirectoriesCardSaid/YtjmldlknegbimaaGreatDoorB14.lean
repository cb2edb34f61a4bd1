/- The reference's Characters; slices.Max. -/
import Derived.Test.YtjmldlknegbimaaGreatDoorB13
import Derived.Test.YtjmldlknegbimaaGreatDoorB3
set_option linter.unusedVariables false
set_option linter.unusedSimpArgs false
namespace Go.Proofs.YtjmldlknegbimaaGreatDoor.Sx
open Go Go.RowKit
variable {G : Gl}
set_option maxRecDepth 4000 in
theorem p_rchars (s : List UInt8) : PF Tryz.prog G 54 [.str s] (charV s) := by
  refine PF.of_body mo Tryz.func54 rfl (by kernel_rfl) (by kernel_rfl) (by simp [Tryz.ntmps54]) ?_; simp only [go_sem, Nat.reduceBEq, Nat.reduceAdd, Nat.reduceMul, Nat.reduceSub, Nat.reduceLeDiff, Int.reduceAdd, Int.reduceSub, Int.reduceMul, Int.reduceLE, Int.reduceLT, Int.reduceEq, Int.reduceNeg, Int.reduceToNat, Int.reduceTDiv, Int.reduceTMod, reduceIte, Nat.reduceEqDiff, Nat.reducePow, Int.reducePow, Tryz.results54]
  (first | with_reducible refine condW_not ?_ ?_ | refine condW_split ?_ ?_) <;> intro h1 <;> simp only [go_sem, Nat.reduceBEq, Nat.reduceAdd, Nat.reduceMul, Nat.reduceSub, Nat.reduceLeDiff, Int.reduceAdd, Int.reduceSub, Int.reduceMul, Int.reduceLE, Int.reduceLT, Int.reduceEq, Int.reduceNeg, Int.reduceToNat, Int.reduceTDiv, Int.reduceTMod, reduceIte, Nat.reduceEqDiff, Nat.reducePow, Int.reducePow, h1]
  · rw [charV, if_pos h1]
  · have hl := toNot h1
    refine wpc_loop (List Nat × List UInt8) (fun q => [(0, .d (.str q.2)), (4, .tsl 0 (q.1.map fun (n : Nat) => intEl n))]) (fun q => [.tok 1 q.1.length])
      (fun q => q.1.length + q.2.length ≤ 65536 ∧ charsP s = (charsP q.2).map (q.1 ++ ·)) (fun q => q.2.length) ([], s)
      (.step _ _ 4 .nil [] 1 _ _ rfl (by decide) (.refl _ _)) (fun q hq => ⟨Nat.zero_le _, rfl, rfl⟩) ⟨by simp; omega, by simp⟩ rfl ?_ ?_
    · simp only [go_sem, Nat.reduceBEq, Nat.reduceAdd, Nat.reduceMul, Nat.reduceSub, Nat.reduceLeDiff, Int.reduceAdd, Int.reduceSub, Int.reduceMul, Int.reduceLE, Int.reduceLT, Int.reduceEq, Int.reduceNeg, Int.reduceToNat, Int.reduceTDiv, Int.reduceTMod, reduceIte, Nat.reduceEqDiff, Nat.reducePow, Int.reducePow]
    rintro ⟨acc, r⟩ e ⟨i1, i3⟩ ⟨g0, g4, _⟩
    simp only at i1 i3 g0 g4
    simp only [go_sem, Nat.reduceBEq, Nat.reduceAdd, Nat.reduceMul, Nat.reduceSub, Nat.reduceLeDiff, Int.reduceAdd, Int.reduceSub, Int.reduceMul, Int.reduceLE, Int.reduceLT, Int.reduceEq, Int.reduceNeg, Int.reduceToNat, Int.reduceTDiv, Int.reduceTMod, reduceIte, Nat.reduceEqDiff, Nat.reducePow, Int.reducePow, g0, g4]
    (first | with_reducible refine condW_not ?_ ?_ | refine condW_split ?_ ?_) <;> intro h2 <;> simp only [go_sem, Nat.reduceBEq, Nat.reduceAdd, Nat.reduceMul, Nat.reduceSub, Nat.reduceLeDiff, Int.reduceAdd, Int.reduceSub, Int.reduceMul, Int.reduceLE, Int.reduceLT, Int.reduceEq, Int.reduceNeg, Int.reduceToNat, Int.reduceTDiv, Int.reduceTMod, reduceIte, Nat.reduceEqDiff, Nat.reducePow, Int.reducePow, g0, g4, h2]
    · have hr : r ≠ [] := by rintro rfl; simp at h2
      have pf := p_rfirst (G := G) r (by omega)
      unfold firstV at pf
      cases hc : chr1 r with
      | none =>
        rw [hc] at pf
        simp only [] at pf
        refine callK_pf (pf) (by first | (simp only [go_sem, Nat.reduceBEq, Nat.reduceAdd, Nat.reduceMul, Nat.reduceSub, Nat.reduceLeDiff, Int.reduceAdd, Int.reduceSub, Int.reduceMul, Int.reduceLE, Int.reduceLT, Int.reduceEq, Int.reduceNeg, Int.reduceToNat, Int.reduceTDiv, Int.reduceTMod, reduceIte, Nat.reduceEqDiff, Nat.reducePow, Int.reducePow]; done) | (simp only [go_sem, Nat.reduceBEq, Nat.reduceAdd, Nat.reduceMul, Nat.reduceSub, Nat.reduceLeDiff, Int.reduceAdd, Int.reduceSub, Int.reduceMul, Int.reduceLE, Int.reduceLT, Int.reduceEq, Int.reduceNeg, Int.reduceToNat, Int.reduceTDiv, Int.reduceTMod, reduceIte, Nat.reduceEqDiff, Nat.reducePow, Int.reducePow]; rfl) | rfl) ?_; simp only [go_sem, Nat.reduceBEq, Nat.reduceAdd, Nat.reduceMul, Nat.reduceSub, Nat.reduceLeDiff, Int.reduceAdd, Int.reduceSub, Int.reduceMul, Int.reduceLE, Int.reduceLT, Int.reduceEq, Int.reduceNeg, Int.reduceToNat, Int.reduceTDiv, Int.reduceTMod, reduceIte, Nat.reduceEqDiff, Nat.reducePow, Int.reducePow, g0, g4]
        rw [charV, if_neg (by rw [h1]; decide), i3, charsP_none hr hc]; rfl
      | some p =>
        obtain ⟨d2, d3, d1⟩ := chr1_len hc
        rw [hc] at pf
        simp only [] at pf
        have hz : decide ((p.2 : Int) = 0) = false := by simp; omega
        refine callK_pf (pf) (by first | (simp only [go_sem, Nat.reduceBEq, Nat.reduceAdd, Nat.reduceMul, Nat.reduceSub, Nat.reduceLeDiff, Int.reduceAdd, Int.reduceSub, Int.reduceMul, Int.reduceLE, Int.reduceLT, Int.reduceEq, Int.reduceNeg, Int.reduceToNat, Int.reduceTDiv, Int.reduceTMod, reduceIte, Nat.reduceEqDiff, Nat.reducePow, Int.reducePow]; done) | (simp only [go_sem, Nat.reduceBEq, Nat.reduceAdd, Nat.reduceMul, Nat.reduceSub, Nat.reduceLeDiff, Int.reduceAdd, Int.reduceSub, Int.reduceMul, Int.reduceLE, Int.reduceLT, Int.reduceEq, Int.reduceNeg, Int.reduceToNat, Int.reduceTDiv, Int.reduceTMod, reduceIte, Nat.reduceEqDiff, Nat.reducePow, Int.reducePow]; rfl) | rfl) ?_; simp only [go_sem, Nat.reduceBEq, Nat.reduceAdd, Nat.reduceMul, Nat.reduceSub, Nat.reduceLeDiff, Int.reduceAdd, Int.reduceSub, Int.reduceMul, Int.reduceLE, Int.reduceLT, Int.reduceEq, Int.reduceNeg, Int.reduceToNat, Int.reduceTDiv, Int.reduceTMod, reduceIte, Nat.reduceEqDiff, Nat.reducePow, Int.reducePow, g0, g4, hz]
        refine ⟨⟨by simp [szOk, intEl], by omega⟩, ⟨by omega, by omega⟩, (acc ++ [p.1], r.drop p.2), ⟨by simp; omega, ?_⟩, by simp; omega, ⟨[], by simp⟩, rfl, by simp [intEl]⟩
        rw [i3, charsP_some hr hc]
        cases charsP (r.drop p.2) <;> simp
    · have hr : r = [] := by have := toNot h2; exact List.length_eq_zero_iff.1 (by omega)
      subst hr
      rw [charsP_nil] at i3
      rw [charV, if_neg (by rw [h1]; decide), i3]
      simp
def maxI (l : List Nat) : Nat := l.foldl max 0
set_option maxRecDepth 4000 in
theorem p_max (l : List Nat) (h : l ≠ []) (hl : l.length < 2 ^ 40) : PF Tryz.prog G 81 [.sl .any (l.map fun (n : Nat) => intEl n)] (.int .i64 (maxI l)) := by
  have h0 : l.length ≠ 0 := fun hc => h (List.length_eq_zero_iff.1 hc)
  refine PF.of_body mo Tryz.func81 rfl (by kernel_rfl) (by kernel_rfl) (by simp [Tryz.ntmps81]) ?_; simp only [go_sem, Nat.reduceBEq, Nat.reduceAdd, Nat.reduceMul, Nat.reduceSub, Nat.reduceLeDiff, Int.reduceAdd, Int.reduceSub, Int.reduceMul, Int.reduceLE, Int.reduceLT, Int.reduceEq, Int.reduceNeg, Int.reduceToNat, Int.reduceTDiv, Int.reduceTMod, reduceIte, Nat.reduceEqDiff, Nat.reducePow, Int.reducePow, Tryz.results81]
  (first | with_reducible refine condW_not ?_ ?_ | refine condW_split ?_ ?_) <;> intro h1 <;> simp only [go_sem, Nat.reduceBEq, Nat.reduceAdd, Nat.reduceMul, Nat.reduceSub, Nat.reduceLeDiff, Int.reduceAdd, Int.reduceSub, Int.reduceMul, Int.reduceLE, Int.reduceLT, Int.reduceEq, Int.reduceNeg, Int.reduceToNat, Int.reduceTDiv, Int.reduceTMod, reduceIte, Nat.reduceEqDiff, Nat.reducePow, Int.reducePow, h1]
  · exfalso; have := toProp h1; omega
  · refine ⟨by omega, ?_⟩
    refine wpc_loop Nat (fun i => [(0, .d (.sl .any (l.map fun (n : Nat) => intEl n))), (3, .d (.int .i64 (maxI (l.take i)))), (4, .d (.int .i64 i))]) (fun i => []) (fun i => 1 ≤ i ∧ i ≤ l.length) (fun i => l.length - i) 1
      (.refl _ _) (fun i hi => ⟨Nat.zero_le _, rfl, rfl⟩) ⟨by omega, by omega⟩ rfl ?_ ?_
    · simp only [go_sem, Nat.reduceBEq, Nat.reduceAdd, Nat.reduceMul, Nat.reduceSub, Nat.reduceLeDiff, Int.reduceAdd, Int.reduceSub, Int.reduceMul, Int.reduceLE, Int.reduceLT, Int.reduceEq, Int.reduceNeg, Int.reduceToNat, Int.reduceTDiv, Int.reduceTMod, reduceIte, Nat.reduceEqDiff, Nat.reducePow, Int.reducePow]
      refine ⟨?_, rfl⟩
      cases l with
      | nil => exact absurd rfl h
      | cons x r => simp [maxI]
    intro i e ⟨i1, i2⟩ ⟨g0, g3, g4, _⟩
    simp only [go_sem, Nat.reduceBEq, Nat.reduceAdd, Nat.reduceMul, Nat.reduceSub, Nat.reduceLeDiff, Int.reduceAdd, Int.reduceSub, Int.reduceMul, Int.reduceLE, Int.reduceLT, Int.reduceEq, Int.reduceNeg, Int.reduceToNat, Int.reduceTDiv, Int.reduceTMod, reduceIte, Nat.reduceEqDiff, Nat.reducePow, Int.reducePow, g0, g3, g4]
    (first | with_reducible refine condW_not ?_ ?_ | refine condW_split ?_ ?_) <;> intro h2 <;> simp only [go_sem, Nat.reduceBEq, Nat.reduceAdd, Nat.reduceMul, Nat.reduceSub, Nat.reduceLeDiff, Int.reduceAdd, Int.reduceSub, Int.reduceMul, Int.reduceLE, Int.reduceLT, Int.reduceEq, Int.reduceNeg, Int.reduceToNat, Int.reduceTDiv, Int.reduceTMod, reduceIte, Nat.reduceEqDiff, Nat.reducePow, Int.reducePow, g0, g3, g4, h2]
    · have hlt : i < l.length := by have := toProp h2; omega
      refine ⟨⟨by omega, by omega⟩, i + 1, ⟨by omega, by omega⟩, by omega, ⟨_, rfl⟩, ?_, by rw [wrap_i64 (by omega) (by omega)]; rfl⟩
      congr 2
      have : maxI (l.take (i + 1)) = max (maxI (l.take i)) l[i] := foldl_take_succ _ _ _ _ hlt
      rw [this]
      split <;> omega
    · have : i = l.length := by have := toNot h2; omega
      subst this
      rw [List.take_length]
set_option maxRecDepth 4000 in
theorem p_rev (s : List UInt8) (hs : s.length < 2 ^ 30) : PF Tryz.prog G 84 [.str s] (.str s.reverse) := by
  have w0 : IntKind.i64.wrap ((s.length : Int) - 1) = (s.length : Int) - 1 := wrap_i64 (by omega) (by omega)
  refine PF.of_body mo Tryz.func84 rfl (by kernel_rfl) (by kernel_rfl) (by simp [Tryz.ntmps84]) ?_; simp only [go_sem, Nat.reduceBEq, Nat.reduceAdd, Nat.reduceMul, Nat.reduceSub, Nat.reduceLeDiff, Int.reduceAdd, Int.reduceSub, Int.reduceMul, Int.reduceLE, Int.reduceLT, Int.reduceEq, Int.reduceNeg, Int.reduceToNat, Int.reduceTDiv, Int.reduceTMod, reduceIte, Nat.reduceEqDiff, Nat.reducePow, Int.reducePow, Tryz.results84]
  simp only [go_sem, Nat.reduceBEq, Nat.reduceAdd, Nat.reduceMul, Nat.reduceSub, Nat.reduceLeDiff, Int.reduceAdd, Int.reduceSub, Int.reduceMul, Int.reduceLE, Int.reduceLT, Int.reduceEq, Int.reduceNeg, Int.reduceToNat, Int.reduceTDiv, Int.reduceTMod, reduceIte, Nat.reduceEqDiff, Nat.reducePow, Int.reducePow, w0]
  refine wpc_loop Nat (fun k => [(0, .d (.str s)), (3, .tsl 0 ((s.reverse.take k).map byteEl)), (4, .d (.int .i64 ((s.length : Int) - 1 - k)))]) (fun k => [.tok 1 (s.reverse.take k).length]) (fun k => k ≤ s.length) (fun k => s.length - k) 0
    (.step _ _ 3 .full [] 1 _ _ rfl (by decide) (.refl _ _)) (fun k hk => ⟨Nat.zero_le _, rfl, rfl⟩) (Nat.zero_le _) rfl ?_ ?_
  · simp only [go_sem, Nat.reduceBEq, Nat.reduceAdd, Nat.reduceMul, Nat.reduceSub, Nat.reduceLeDiff, Int.reduceAdd, Int.reduceSub, Int.reduceMul, Int.reduceLE, Int.reduceLT, Int.reduceEq, Int.reduceNeg, Int.reduceToNat, Int.reduceTDiv, Int.reduceTMod, reduceIte, Nat.reduceEqDiff, Nat.reducePow, Int.reducePow, w0]
    simp
  intro k e hk ⟨g0, g3, g4, _⟩
  simp only [go_sem, Nat.reduceBEq, Nat.reduceAdd, Nat.reduceMul, Nat.reduceSub, Nat.reduceLeDiff, Int.reduceAdd, Int.reduceSub, Int.reduceMul, Int.reduceLE, Int.reduceLT, Int.reduceEq, Int.reduceNeg, Int.reduceToNat, Int.reduceTDiv, Int.reduceTMod, reduceIte, Nat.reduceEqDiff, Nat.reducePow, Int.reducePow, g0, g3, g4]
  (first | with_reducible refine condW_not ?_ ?_ | refine condW_split ?_ ?_) <;> intro h2 <;> simp only [go_sem, Nat.reduceBEq, Nat.reduceAdd, Nat.reduceMul, Nat.reduceSub, Nat.reduceLeDiff, Int.reduceAdd, Int.reduceSub, Int.reduceMul, Int.reduceLE, Int.reduceLT, Int.reduceEq, Int.reduceNeg, Int.reduceToNat, Int.reduceTDiv, Int.reduceTMod, reduceIte, Nat.reduceEqDiff, Nat.reducePow, Int.reducePow, g0, g3, g4, h2]
  · have hlt : k < s.length := by have := toProp h2; omega
    have w1 : IntKind.i64.wrap ((s.length : Int) - 1 - k - 1) = (s.length : Int) - 1 - k - 1 := wrap_i64 (by omega) (by omega)
    have hr : s.reverse.take (k + 1) = s.reverse.take k ++ [s[s.length - 1 - k]] := by
      rw [List.take_succ_eq_append_getElem (by simpa using hlt), List.getElem_reverse]
    have ei : ((s.length : Int) - 1 - k).toNat = s.length - 1 - k := by omega
    refine ⟨⟨by omega, by omega⟩, by simp; omega, k + 1, by omega, by omega, ⟨[], by rw [hr]; simp⟩, ?_, by rw [w1]; congr 2; omega⟩
    rw [hr, List.map_append]
    simp only [List.map_cons, List.map_nil, byteEl, ei]
  · have : k = s.length := by have := toNot h2; omega
    subst this
    have : s.reverse.take s.length = s.reverse := List.take_of_length_le (by simp)
    rw [this]
end Go.Proofs.YtjmldlknegbimaaGreatDoor.Sx
