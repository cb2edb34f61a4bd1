/- The reference's Streams, Names, Few and Fids; slices.Equal of strings. -/
import Derived.Test.YtjmldlknegbimaaDoorB21
set_option linter.unusedVariables false
set_option linter.unusedSimpArgs false
namespace Go.Proofs.YtjmldlknegbimaaDoor.Sx
open Go Go.RowKit
variable {G : Gl}
def fewF (l : List Ent) (m : Int) : Bool := !l.any (fun f => decide (400 < (f.name.length : Int))) && decide ((l.length : Int) ≤ m)
theorem p_fewF (l : List Ent) (m : Int) (hl : l.length < 2 ^ 63) : PF Tryd.prog G 24 [.sl .any (l.map entEl), .int .i64 m] (.bool (fewF l m)) := by
  refine PF.of_body mo Tryd.func24 rfl (by kernel_rfl) (by kernel_rfl) (by simp [Tryd.ntmps24]) ?_; simp only [go_sem, Nat.reduceBEq, Nat.reduceAdd, Nat.reduceMul, Nat.reduceSub, Nat.reduceLeDiff, Int.reduceAdd, Int.reduceSub, Int.reduceMul, Int.reduceLE, Int.reduceLT, Int.reduceEq, Int.reduceNeg, Int.reduceToNat, Int.reduceTDiv, Int.reduceTMod, reduceIte, Nat.reduceEqDiff, Nat.reducePow, Int.reducePow, Tryd.results24]
  refine wpc_loop Nat (fun i => [(0, .d (.sl .any (l.map entEl))), (1, .d (.int .i64 m)), (5, .d (.int .i64 i))]) (fun i => []) (fun i => i ≤ l.length ∧ ∀ j (h : j < l.length), j < i → decide (400 < (l[j].name.length : Int)) = false) (fun i => l.length - i) 0
    (.refl _ _) (fun i hi => ⟨Nat.zero_le _, rfl, rfl⟩) ⟨Nat.zero_le _, fun j h h2 => by omega⟩ rfl ?_ ?_
  · simp only [go_sem, Nat.reduceBEq, Nat.reduceAdd, Nat.reduceMul, Nat.reduceSub, Nat.reduceLeDiff, Int.reduceAdd, Int.reduceSub, Int.reduceMul, Int.reduceLE, Int.reduceLT, Int.reduceEq, Int.reduceNeg, Int.reduceToNat, Int.reduceTDiv, Int.reduceTMod, reduceIte, Nat.reduceEqDiff, Nat.reducePow, Int.reducePow, Int.natCast_zero]
  intro i e ⟨hi, ha⟩ ⟨g0, g1, g5, _⟩
  simp only [go_sem, Nat.reduceBEq, Nat.reduceAdd, Nat.reduceMul, Nat.reduceSub, Nat.reduceLeDiff, Int.reduceAdd, Int.reduceSub, Int.reduceMul, Int.reduceLE, Int.reduceLT, Int.reduceEq, Int.reduceNeg, Int.reduceToNat, Int.reduceTDiv, Int.reduceTMod, reduceIte, Nat.reduceEqDiff, Nat.reducePow, Int.reducePow, g0, g1, g5]
  (first | with_reducible refine condW_not ?_ ?_ | refine condW_split ?_ ?_) <;> intro h1 <;> simp only [go_sem, Nat.reduceBEq, Nat.reduceAdd, Nat.reduceMul, Nat.reduceSub, Nat.reduceLeDiff, Int.reduceAdd, Int.reduceSub, Int.reduceMul, Int.reduceLE, Int.reduceLT, Int.reduceEq, Int.reduceNeg, Int.reduceToNat, Int.reduceTDiv, Int.reduceTMod, reduceIte, Nat.reduceEqDiff, Nat.reducePow, Int.reducePow, g0, g1, g5, h1]
  · have hlt : i < l.length := by have := toProp h1; omega
    refine ⟨⟨by omega, by omega⟩, ?_⟩
    simp only [go_sem, Nat.reduceBEq, Nat.reduceAdd, Nat.reduceMul, Nat.reduceSub, Nat.reduceLeDiff, Int.reduceAdd, Int.reduceSub, Int.reduceMul, Int.reduceLE, Int.reduceLT, Int.reduceEq, Int.reduceNeg, Int.reduceToNat, Int.reduceTDiv, Int.reduceTMod, reduceIte, Nat.reduceEqDiff, Nat.reducePow, Int.reducePow, g0, g1, g5, entEl]
    (first | with_reducible refine condW_not ?_ ?_ | refine condW_split ?_ ?_) <;> intro h2 <;> simp only [go_sem, Nat.reduceBEq, Nat.reduceAdd, Nat.reduceMul, Nat.reduceSub, Nat.reduceLeDiff, Int.reduceAdd, Int.reduceSub, Int.reduceMul, Int.reduceLE, Int.reduceLT, Int.reduceEq, Int.reduceNeg, Int.reduceToNat, Int.reduceTDiv, Int.reduceTMod, reduceIte, Nat.reduceEqDiff, Nat.reducePow, Int.reducePow, g0, g1, g5, entEl, h2]
    · have : l.any (fun f => decide (400 < (f.name.length : Int))) = true := List.any_eq_true.2 ⟨l[i], by simp, h2⟩
      rw [fewF, this]; rfl
    · refine ⟨i + 1, ⟨by omega, fun j h hj => ?_⟩, by omega, ⟨_, rfl⟩, by rw [wrap_i64 (by omega) (by omega)]; rfl⟩
      rcases Nat.lt_or_ge j i with h3 | h3
      · exact ha j h h3
      · have : j = i := by omega
        subst this; exact h2
  · have hn : l.any (fun f => decide (400 < (f.name.length : Int))) = false := by
      rw [List.any_eq_false]
      intro x hx
      obtain ⟨j, hj, rfl⟩ := List.mem_iff_getElem.1 hx
      rw [ha j hj (by have := toNot h1; omega)]; decide
    rw [fewF, hn]; rfl
theorem fewF_len {l : List Ent} {m : Int} (h : fewF l m = true) : (l.length : Int) ≤ m := by
  unfold fewF at h
  rw [Bool.and_eq_true] at h
  exact toProp h.2
theorem fewF_name {l : List Ent} {m : Int} (h : fewF l m = true) : ∀ f ∈ l, f.name.length ≤ 400 := by
  unfold fewF at h
  rw [Bool.and_eq_true, Bool.not_eq_true', List.any_eq_false] at h
  intro f hf
  have := h.1 f hf
  simp at this
  omega
set_option maxRecDepth 8000 in
theorem p_fids (l m : List Ent) (hl : l.length < 2 ^ 62) : PF Tryd.prog G 29 [.sl .any (l.map entEl), .sl .any (m.map entEl)] (.bool (decide (l = m))) := by
  refine PF.of_body mo Tryd.func29 rfl (by kernel_rfl) (by kernel_rfl) (by simp [Tryd.ntmps29]) ?_; simp only [go_sem, Nat.reduceBEq, Nat.reduceAdd, Nat.reduceMul, Nat.reduceSub, Nat.reduceLeDiff, Int.reduceAdd, Int.reduceSub, Int.reduceMul, Int.reduceLE, Int.reduceLT, Int.reduceEq, Int.reduceNeg, Int.reduceToNat, Int.reduceTDiv, Int.reduceTMod, reduceIte, Nat.reduceEqDiff, Nat.reducePow, Int.reducePow, Tryd.results29]
  (first | with_reducible refine condW_not ?_ ?_ | refine condW_split ?_ ?_) <;> intro h <;> simp only [go_sem, Nat.reduceBEq, Nat.reduceAdd, Nat.reduceMul, Nat.reduceSub, Nat.reduceLeDiff, Int.reduceAdd, Int.reduceSub, Int.reduceMul, Int.reduceLE, Int.reduceLT, Int.reduceEq, Int.reduceNeg, Int.reduceToNat, Int.reduceTDiv, Int.reduceTMod, reduceIte, Nat.reduceEqDiff, Nat.reducePow, Int.reducePow, h]
  · have : l ≠ m := fun hc => by have := toNot h; rw [hc] at this; exact this rfl
    simp [this]
  · have hlm : l.length = m.length := by have := toProp h; omega
    refine wpc_loop Nat (fun i => [(0, .d (.sl .any (l.map entEl))), (1, .d (.sl .any (m.map entEl))), (5, .d (.int .i64 i))]) (fun i => []) (fun i => i ≤ l.length ∧ l.take i = m.take i) (fun i => l.length - i) 0
      (.refl _ _) (fun i hi => ⟨Nat.zero_le _, rfl, rfl⟩) ⟨Nat.zero_le _, rfl⟩ rfl ?_ ?_
    · simp only [go_sem, Nat.reduceBEq, Nat.reduceAdd, Nat.reduceMul, Nat.reduceSub, Nat.reduceLeDiff, Int.reduceAdd, Int.reduceSub, Int.reduceMul, Int.reduceLE, Int.reduceLT, Int.reduceEq, Int.reduceNeg, Int.reduceToNat, Int.reduceTDiv, Int.reduceTMod, reduceIte, Nat.reduceEqDiff, Nat.reducePow, Int.reducePow, Int.natCast_zero]
    intro i e ⟨hi, ha⟩ ⟨g0, g1, g5, _⟩
    simp only [go_sem, Nat.reduceBEq, Nat.reduceAdd, Nat.reduceMul, Nat.reduceSub, Nat.reduceLeDiff, Int.reduceAdd, Int.reduceSub, Int.reduceMul, Int.reduceLE, Int.reduceLT, Int.reduceEq, Int.reduceNeg, Int.reduceToNat, Int.reduceTDiv, Int.reduceTMod, reduceIte, Nat.reduceEqDiff, Nat.reducePow, Int.reducePow, g0, g1, g5, entEl]
    (first | with_reducible refine condW_not ?_ ?_ | refine condW_split ?_ ?_) <;> intro h2 <;> simp only [go_sem, Nat.reduceBEq, Nat.reduceAdd, Nat.reduceMul, Nat.reduceSub, Nat.reduceLeDiff, Int.reduceAdd, Int.reduceSub, Int.reduceMul, Int.reduceLE, Int.reduceLT, Int.reduceEq, Int.reduceNeg, Int.reduceToNat, Int.reduceTDiv, Int.reduceTMod, reduceIte, Nat.reduceEqDiff, Nat.reducePow, Int.reducePow, g0, g1, g5, entEl, h2]
    · have hlt : i < l.length := by have := toProp h2; omega
      have hm' : i < m.length := by omega
      refine ⟨⟨by omega, by omega⟩, ⟨by omega, by omega⟩, by kernel_rfl, ?_⟩
      (first | with_reducible refine condW_not ?_ ?_ | refine condW_split ?_ ?_) <;> intro h3 <;> simp only [go_sem, Nat.reduceBEq, Nat.reduceAdd, Nat.reduceMul, Nat.reduceSub, Nat.reduceLeDiff, Int.reduceAdd, Int.reduceSub, Int.reduceMul, Int.reduceLE, Int.reduceLT, Int.reduceEq, Int.reduceNeg, Int.reduceToNat, Int.reduceTDiv, Int.reduceTMod, reduceIte, Nat.reduceEqDiff, Nat.reducePow, Int.reducePow, g0, g1, g5, entEl, h3]
      · have : l ≠ m := fun hc => by
          subst hc
          simp at h3
        simp [this]
      · have he : l[i] = m[i] := by
          simp only [Bool.and_eq_true, beq_iff_eq, decide_eq_true_eq] at h3
          generalize l[i] = x at h3 ⊢
          generalize m[i] = y at h3 ⊢
          obtain ⟨x1, x2, x3, x4, x5, x6, x7, x8, x9⟩ := x
          obtain ⟨y1, y2, y3, y4, y5, y6, y7, y8, y9⟩ := y
          simp_all
        refine ⟨i + 1, ⟨by omega, ?_⟩, by omega, ⟨_, rfl⟩, by rw [wrap_i64 (by omega) (by omega)]; rfl⟩
        rw [List.take_succ_eq_append_getElem hlt, List.take_succ_eq_append_getElem hm', ha, he]
    · have : i = l.length := by have := toNot h2; omega
      subst this
      have : l = m := by rwa [List.take_length, hlm, List.take_length] at ha
      simp [this]
set_option maxRecDepth 4000 in
theorem p_eqStr (l m : List (List UInt8)) (hl : l.length < 2 ^ 62) : PF Tryd.prog G 30 [.sl .any (l.map strEl), .sl .any (m.map strEl)] (.bool (decide (l = m))) := by
  refine PF.of_body mo Tryd.func30 rfl (by kernel_rfl) (by kernel_rfl) (by simp [Tryd.ntmps30]) ?_; simp only [go_sem, Nat.reduceBEq, Nat.reduceAdd, Nat.reduceMul, Nat.reduceSub, Nat.reduceLeDiff, Int.reduceAdd, Int.reduceSub, Int.reduceMul, Int.reduceLE, Int.reduceLT, Int.reduceEq, Int.reduceNeg, Int.reduceToNat, Int.reduceTDiv, Int.reduceTMod, reduceIte, Nat.reduceEqDiff, Nat.reducePow, Int.reducePow, Tryd.results30]
  (first | with_reducible refine condW_not ?_ ?_ | refine condW_split ?_ ?_) <;> intro h <;> simp only [go_sem, Nat.reduceBEq, Nat.reduceAdd, Nat.reduceMul, Nat.reduceSub, Nat.reduceLeDiff, Int.reduceAdd, Int.reduceSub, Int.reduceMul, Int.reduceLE, Int.reduceLT, Int.reduceEq, Int.reduceNeg, Int.reduceToNat, Int.reduceTDiv, Int.reduceTMod, reduceIte, Nat.reduceEqDiff, Nat.reducePow, Int.reducePow, h]
  · have : l ≠ m := fun hc => by have := toNot h; rw [hc] at this; exact this rfl
    simp [this]
  · have hlm : l.length = m.length := by have := toProp h; omega
    refine wpc_loop Nat (fun i => [(0, .d (.sl .any (l.map strEl))), (1, .d (.sl .any (m.map strEl))), (12, .d (.int .i64 l.length)), (13, .d (.int .i64 i))]) (fun i => []) (fun i => i ≤ l.length ∧ l.take i = m.take i) (fun i => l.length - i) 0
      (.refl _ _) (fun i hi => ⟨Nat.zero_le _, rfl, rfl⟩) ⟨Nat.zero_le _, rfl⟩ rfl ?_ ?_
    · simp only [go_sem, Nat.reduceBEq, Nat.reduceAdd, Nat.reduceMul, Nat.reduceSub, Nat.reduceLeDiff, Int.reduceAdd, Int.reduceSub, Int.reduceMul, Int.reduceLE, Int.reduceLT, Int.reduceEq, Int.reduceNeg, Int.reduceToNat, Int.reduceTDiv, Int.reduceTMod, reduceIte, Nat.reduceEqDiff, Nat.reducePow, Int.reducePow]
      rfl
    intro i e ⟨hi, ha⟩ ⟨g0, g1, g12, g13, _⟩
    simp only [go_sem, Nat.reduceBEq, Nat.reduceAdd, Nat.reduceMul, Nat.reduceSub, Nat.reduceLeDiff, Int.reduceAdd, Int.reduceSub, Int.reduceMul, Int.reduceLE, Int.reduceLT, Int.reduceEq, Int.reduceNeg, Int.reduceToNat, Int.reduceTDiv, Int.reduceTMod, reduceIte, Nat.reduceEqDiff, Nat.reducePow, Int.reducePow, g0, g1, g12, g13, strEl]
    (first | with_reducible refine condW_not ?_ ?_ | refine condW_split ?_ ?_) <;> intro h2 <;> simp only [go_sem, Nat.reduceBEq, Nat.reduceAdd, Nat.reduceMul, Nat.reduceSub, Nat.reduceLeDiff, Int.reduceAdd, Int.reduceSub, Int.reduceMul, Int.reduceLE, Int.reduceLT, Int.reduceEq, Int.reduceNeg, Int.reduceToNat, Int.reduceTDiv, Int.reduceTMod, reduceIte, Nat.reduceEqDiff, Nat.reducePow, Int.reducePow, g0, g1, g12, g13, strEl, h2]
    · have hlt : i < l.length := by have := toProp h2; omega
      have hm' : i < m.length := by omega
      refine ⟨⟨by omega, by omega⟩, ⟨by omega, by omega⟩, by kernel_rfl, ?_⟩
      (first | with_reducible refine condW_not ?_ ?_ | refine condW_split ?_ ?_) <;> intro h3 <;> simp only [go_sem, Nat.reduceBEq, Nat.reduceAdd, Nat.reduceMul, Nat.reduceSub, Nat.reduceLeDiff, Int.reduceAdd, Int.reduceSub, Int.reduceMul, Int.reduceLE, Int.reduceLT, Int.reduceEq, Int.reduceNeg, Int.reduceToNat, Int.reduceTDiv, Int.reduceTMod, reduceIte, Nat.reduceEqDiff, Nat.reducePow, Int.reducePow, g0, g1, g12, g13, strEl, h3]
      · have : l ≠ m := fun hc => by
          subst hc
          simp at h3
        simp [this]
      · have he : l[i] = m[i] := by
          simp only [Bool.and_eq_true, beq_iff_eq, decide_eq_true_eq] at h3
          first | exact h3 | exact h3.1
        refine ⟨i + 1, ⟨by omega, ?_⟩, by omega, ⟨_, rfl⟩, by rw [wrap_i64 (by omega) (by omega)]; rfl⟩
        rw [List.take_succ_eq_append_getElem hlt, List.take_succ_eq_append_getElem hm', ha, he]
    · have : i = l.length := by have := toNot h2; omega
      subst this
      have : l = m := by rwa [List.take_length, hlm, List.take_length] at ha
      simp [this]
set_option maxRecDepth 8000 in
theorem p_rstreams (p : Int × Int) (l : List Strm) (ic : List (Int × Int)) (u : Int) : PF Tryd.prog G 26 [.agg (adEl p), .sl .any (l.map stEl), .sl .any (ic.map adEl), .int .i64 u] (streamsV p l ic u) := by
  refine PF.of_body mo Tryd.func26 rfl (by kernel_rfl) (by kernel_rfl) (by simp [Tryd.ntmps26]) ?_; simp only [go_sem, Nat.reduceBEq, Nat.reduceAdd, Nat.reduceMul, Nat.reduceSub, Nat.reduceLeDiff, Int.reduceAdd, Int.reduceSub, Int.reduceMul, Int.reduceLE, Int.reduceLT, Int.reduceEq, Int.reduceNeg, Int.reduceToNat, Int.reduceTDiv, Int.reduceTMod, reduceIte, Nat.reduceEqDiff, Nat.reducePow, Int.reducePow, Tryd.results26]
  (first | with_reducible refine condW_not ?_ ?_ | refine condW_split ?_ ?_) <;> intro h1 <;> simp only [go_sem, Nat.reduceBEq, Nat.reduceAdd, Nat.reduceMul, Nat.reduceSub, Nat.reduceLeDiff, Int.reduceAdd, Int.reduceSub, Int.reduceMul, Int.reduceLE, Int.reduceLT, Int.reduceEq, Int.reduceNeg, Int.reduceToNat, Int.reduceTDiv, Int.reduceTMod, reduceIte, Nat.reduceEqDiff, Nat.reducePow, Int.reducePow, adEl, h1]
  · rw [streamsV, if_pos h1]
  · (first | with_reducible refine condW_not ?_ ?_ | refine condW_split ?_ ?_) <;> intro h2 <;> simp only [go_sem, Nat.reduceBEq, Nat.reduceAdd, Nat.reduceMul, Nat.reduceSub, Nat.reduceLeDiff, Int.reduceAdd, Int.reduceSub, Int.reduceMul, Int.reduceLE, Int.reduceLT, Int.reduceEq, Int.reduceNeg, Int.reduceToNat, Int.reduceTDiv, Int.reduceTMod, reduceIte, Nat.reduceEqDiff, Nat.reducePow, Int.reducePow, adEl, h2]
    · rw [streamsV, if_neg (by rw [h1]; decide), if_pos (by have := toNot h2; omega)]
    · have hl := toNot h1
      have hq : ic.length = l.length := by have := toProp h2; omega
      have hval : streamsV p l ic u = if validF (dirP p l ic u) = true then .tup [.sl .any ((dirP p l ic u).map entEl), .int .i64 0] else .tup [.sl .any [], .int .i64 1] := by
        rw [streamsV, if_neg (by rw [h1]; decide), if_neg (by omega)]
      have hdir : dirI p l ic u l.length = dirP p l ic u := by rw [dirI, dirP, List.take_of_length_le (by simp; omega)]
      refine wpc_loop Nat (fun i => [(1, .d (.sl .any (l.map stEl))), (2, .d (.sl .any (ic.map adEl))), (3, .d (.int .i64 u)), (10, .tsl 1 ((dirI p l ic u i).map entEl)), (11, .d (.int .i64 i))]) (fun i => [.box [.d (.int .i64 p.1), .d (.int .i64 p.2)], .tok 9 (dirI p l ic u i).length]) (fun i => i ≤ l.length) (fun i => l.length - i) 0
        (.step _ _ 10 .full [entEl (parE p)] 9 _ _ rfl (by decide) (.refl _ _)) (fun i hi => ⟨Nat.zero_le _, rfl, rfl⟩) (Nat.zero_le _) rfl ?_ ?_
      · simp only [go_sem, Nat.reduceBEq, Nat.reduceAdd, Nat.reduceMul, Nat.reduceSub, Nat.reduceLeDiff, Int.reduceAdd, Int.reduceSub, Int.reduceMul, Int.reduceLE, Int.reduceLT, Int.reduceEq, Int.reduceNeg, Int.reduceToNat, Int.reduceTDiv, Int.reduceTMod, reduceIte, Nat.reduceEqDiff, Nat.reducePow, Int.reducePow, adEl, Int.natCast_zero]
        exact rfl
      intro i e hi ⟨g1, g2, g3, g10, g11, _⟩
      simp only [go_sem, Nat.reduceBEq, Nat.reduceAdd, Nat.reduceMul, Nat.reduceSub, Nat.reduceLeDiff, Int.reduceAdd, Int.reduceSub, Int.reduceMul, Int.reduceLE, Int.reduceLT, Int.reduceEq, Int.reduceNeg, Int.reduceToNat, Int.reduceTDiv, Int.reduceTMod, reduceIte, Nat.reduceEqDiff, Nat.reducePow, Int.reducePow, g1, g2, g3, g10, g11]
      (first | with_reducible refine condW_not ?_ ?_ | refine condW_split ?_ ?_) <;> intro h3 <;> simp only [go_sem, Nat.reduceBEq, Nat.reduceAdd, Nat.reduceMul, Nat.reduceSub, Nat.reduceLeDiff, Int.reduceAdd, Int.reduceSub, Int.reduceMul, Int.reduceLE, Int.reduceLT, Int.reduceEq, Int.reduceNeg, Int.reduceToNat, Int.reduceTDiv, Int.reduceTMod, reduceIte, Nat.reduceEqDiff, Nat.reducePow, Int.reducePow, g1, g2, g3, g10, g11, h3]
      · have hlt : i < l.length := by have := toProp h3; omega
        have hdl := dirI_len p l ic u i hi hq
        have hds := dirI_succ p l ic u i hlt hq
        refine ⟨⟨by omega, by omega⟩, ?_⟩
        simp only [go_sem, Nat.reduceBEq, Nat.reduceAdd, Nat.reduceMul, Nat.reduceSub, Nat.reduceLeDiff, Int.reduceAdd, Int.reduceSub, Int.reduceMul, Int.reduceLE, Int.reduceLT, Int.reduceEq, Int.reduceNeg, Int.reduceToNat, Int.reduceTDiv, Int.reduceTMod, reduceIte, Nat.reduceEqDiff, Nat.reducePow, Int.reducePow, g1, g2, g3, g10, g11, stEl, adEl, szOk_ents, hdl]
        have hdl2 : (dirI p l ic u (i + 1)).length = i + 1 + 1 := dirI_len p l ic u (i + 1) (by omega) hq
        refine ⟨⟨by omega, by omega⟩, by omega, by kernel_rfl, i + 1, by omega, by omega, ⟨_, by rw [hdl2]⟩, ?_, by rw [wrap_i64 (by omega) (by omega)]; rfl⟩
        rw [hds, List.map_append]
        rfl
      · have : i = l.length := by have := toNot h3; omega
        subst this
        have hlen : (dirI p l ic u l.length).length < 2 ^ 62 := by rw [dirI_len p l ic u _ (Nat.le_refl _) hq]; omega
        rw [hval, ← hdir]
        refine callK_pf (p_rvalidF (dirI p l ic u l.length) hlen) (by first | (simp only [go_sem, Nat.reduceBEq, Nat.reduceAdd, Nat.reduceMul, Nat.reduceSub, Nat.reduceLeDiff, Int.reduceAdd, Int.reduceSub, Int.reduceMul, Int.reduceLE, Int.reduceLT, Int.reduceEq, Int.reduceNeg, Int.reduceToNat, Int.reduceTDiv, Int.reduceTMod, reduceIte, Nat.reduceEqDiff, Nat.reducePow, Int.reducePow]; done) | (simp only [go_sem, Nat.reduceBEq, Nat.reduceAdd, Nat.reduceMul, Nat.reduceSub, Nat.reduceLeDiff, Int.reduceAdd, Int.reduceSub, Int.reduceMul, Int.reduceLE, Int.reduceLT, Int.reduceEq, Int.reduceNeg, Int.reduceToNat, Int.reduceTDiv, Int.reduceTMod, reduceIte, Nat.reduceEqDiff, Nat.reducePow, Int.reducePow]; rfl) | rfl) ?_; simp only [go_sem, Nat.reduceBEq, Nat.reduceAdd, Nat.reduceMul, Nat.reduceSub, Nat.reduceLeDiff, Int.reduceAdd, Int.reduceSub, Int.reduceMul, Int.reduceLE, Int.reduceLT, Int.reduceEq, Int.reduceNeg, Int.reduceToNat, Int.reduceTDiv, Int.reduceTMod, reduceIte, Nat.reduceEqDiff, Nat.reducePow, Int.reducePow, g1, g2, g3, g10, g11]
        (first | with_reducible refine condW_not ?_ ?_ | refine condW_split ?_ ?_) <;> intro h4 <;> simp only [go_sem, Nat.reduceBEq, Nat.reduceAdd, Nat.reduceMul, Nat.reduceSub, Nat.reduceLeDiff, Int.reduceAdd, Int.reduceSub, Int.reduceMul, Int.reduceLE, Int.reduceLT, Int.reduceEq, Int.reduceNeg, Int.reduceToNat, Int.reduceTDiv, Int.reduceTMod, reduceIte, Nat.reduceEqDiff, Nat.reducePow, Int.reducePow, g1, g2, g3, g10, g11, h4]
set_option maxRecDepth 8000 in
theorem p_rnames (l : List Ent) (hl : l.length < 2 ^ 62) : PF Tryd.prog G 28 [.sl .any (l.map entEl)] (namesV l) := by
  refine PF.of_body mo Tryd.func28 rfl (by kernel_rfl) (by kernel_rfl) (by simp [Tryd.ntmps28]) ?_; simp only [go_sem, Nat.reduceBEq, Nat.reduceAdd, Nat.reduceMul, Nat.reduceSub, Nat.reduceLeDiff, Int.reduceAdd, Int.reduceSub, Int.reduceMul, Int.reduceLE, Int.reduceLT, Int.reduceEq, Int.reduceNeg, Int.reduceToNat, Int.reduceTDiv, Int.reduceTMod, reduceIte, Nat.reduceEqDiff, Nat.reducePow, Int.reducePow, Tryd.results28]
  refine callK_pf (p_rvalidF l hl) (by first | (simp only [go_sem, Nat.reduceBEq, Nat.reduceAdd, Nat.reduceMul, Nat.reduceSub, Nat.reduceLeDiff, Int.reduceAdd, Int.reduceSub, Int.reduceMul, Int.reduceLE, Int.reduceLT, Int.reduceEq, Int.reduceNeg, Int.reduceToNat, Int.reduceTDiv, Int.reduceTMod, reduceIte, Nat.reduceEqDiff, Nat.reducePow, Int.reducePow]; done) | (simp only [go_sem, Nat.reduceBEq, Nat.reduceAdd, Nat.reduceMul, Nat.reduceSub, Nat.reduceLeDiff, Int.reduceAdd, Int.reduceSub, Int.reduceMul, Int.reduceLE, Int.reduceLT, Int.reduceEq, Int.reduceNeg, Int.reduceToNat, Int.reduceTDiv, Int.reduceTMod, reduceIte, Nat.reduceEqDiff, Nat.reducePow, Int.reducePow]; rfl) | rfl) ?_; simp only [go_sem, Nat.reduceBEq, Nat.reduceAdd, Nat.reduceMul, Nat.reduceSub, Nat.reduceLeDiff, Int.reduceAdd, Int.reduceSub, Int.reduceMul, Int.reduceLE, Int.reduceLT, Int.reduceEq, Int.reduceNeg, Int.reduceToNat, Int.reduceTDiv, Int.reduceTMod, reduceIte, Nat.reduceEqDiff, Nat.reducePow, Int.reducePow]
  (first | with_reducible refine condW_not ?_ ?_ | refine condW_split ?_ ?_) <;> intro h1 <;> simp only [go_sem, Nat.reduceBEq, Nat.reduceAdd, Nat.reduceMul, Nat.reduceSub, Nat.reduceLeDiff, Int.reduceAdd, Int.reduceSub, Int.reduceMul, Int.reduceLE, Int.reduceLT, Int.reduceEq, Int.reduceNeg, Int.reduceToNat, Int.reduceTDiv, Int.reduceTMod, reduceIte, Nat.reduceEqDiff, Nat.reducePow, Int.reducePow, h1]
  · rw [namesV, if_neg (by rw [h1]; decide)]
  · have hv := h1
    simp only [validF, Bool.and_eq_true, decide_eq_true_eq] at hv
    refine wpc_loop Nat (fun i => [(0, .d (.sl .any (l.map entEl))), (5, .tsl 0 (((l.take i).filter live).map fun f => strEl f.name)), (6, .tsl 1 (((l.take i).filter live).map fun f => adEl (f.blk, f.prt))), (7, .d (.int .i64 i))]) (fun i => [.tok 1 ((l.take i).filter live).length, .tok 2 ((l.take i).filter live).length]) (fun i => i ≤ l.length) (fun i => l.length - i) 0
      (.step _ _ 5 .full [] 1 _ _ rfl (by decide) (.step _ _ 6 .full [] 2 _ _ rfl (by decide) (.refl _ _))) (fun i hi => ⟨Nat.zero_le _, rfl, rfl⟩) (Nat.zero_le _) rfl ?_ ?_
    · simp only [go_sem, Nat.reduceBEq, Nat.reduceAdd, Nat.reduceMul, Nat.reduceSub, Nat.reduceLeDiff, Int.reduceAdd, Int.reduceSub, Int.reduceMul, Int.reduceLE, Int.reduceLT, Int.reduceEq, Int.reduceNeg, Int.reduceToNat, Int.reduceTDiv, Int.reduceTMod, reduceIte, Nat.reduceEqDiff, Nat.reducePow, Int.reducePow, Int.natCast_zero]
      exact ⟨rfl, rfl⟩
    intro i e hi ⟨g0, g5, g6, g7, _⟩
    simp only [go_sem, Nat.reduceBEq, Nat.reduceAdd, Nat.reduceMul, Nat.reduceSub, Nat.reduceLeDiff, Int.reduceAdd, Int.reduceSub, Int.reduceMul, Int.reduceLE, Int.reduceLT, Int.reduceEq, Int.reduceNeg, Int.reduceToNat, Int.reduceTDiv, Int.reduceTMod, reduceIte, Nat.reduceEqDiff, Nat.reducePow, Int.reducePow, g0, g5, g6, g7]
    (first | with_reducible refine condW_not ?_ ?_ | refine condW_split ?_ ?_) <;> intro h3 <;> simp only [go_sem, Nat.reduceBEq, Nat.reduceAdd, Nat.reduceMul, Nat.reduceSub, Nat.reduceLeDiff, Int.reduceAdd, Int.reduceSub, Int.reduceMul, Int.reduceLE, Int.reduceLT, Int.reduceEq, Int.reduceNeg, Int.reduceToNat, Int.reduceTDiv, Int.reduceTMod, reduceIte, Nat.reduceEqDiff, Nat.reducePow, Int.reducePow, g0, g5, g6, g7, h3]
    · have hlt : i < l.length := by have := toProp h3; omega
      refine ⟨⟨by omega, by omega⟩, ?_⟩
      simp only [go_sem, Nat.reduceBEq, Nat.reduceAdd, Nat.reduceMul, Nat.reduceSub, Nat.reduceLeDiff, Int.reduceAdd, Int.reduceSub, Int.reduceMul, Int.reduceLE, Int.reduceLT, Int.reduceEq, Int.reduceNeg, Int.reduceToNat, Int.reduceTDiv, Int.reduceTMod, reduceIte, Nat.reduceEqDiff, Nat.reducePow, Int.reducePow, g0, g5, g6, g7, entEl]
      have hfl : (l.take (i + 1)).filter live = (l.take i).filter live ++ (if live l[i] = true then [l[i]] else []) := by
        rw [List.take_succ_eq_append_getElem hlt, List.filter_append]
        cases hlv : live l[i] <;> simp [List.filter_cons, hlv]
      have hle : ((l.take i).filter live).length ≤ 1024 := by
        have := List.length_filter_le live (l.take i)
        have := List.length_take_le i l
        omega
      (first | with_reducible refine gO_not ?_ ?_ | with_reducible refine gT_not ?_ ?_ | refine gO_split ?_ ?_ | refine gT_split ?_ ?_) <;> intro a1 <;> simp only [go_sem, Nat.reduceBEq, Nat.reduceAdd, Nat.reduceMul, Nat.reduceSub, Nat.reduceLeDiff, Int.reduceAdd, Int.reduceSub, Int.reduceMul, Int.reduceLE, Int.reduceLT, Int.reduceEq, Int.reduceNeg, Int.reduceToNat, Int.reduceTDiv, Int.reduceTMod, reduceIte, Nat.reduceEqDiff, Nat.reducePow, Int.reducePow, g0, g5, g6, g7, entEl, a1]
      · refine ⟨⟨by omega, by omega⟩, ?_⟩
        (first | with_reducible refine condW_not ?_ ?_ | refine condW_split ?_ ?_) <;> intro a2 <;> simp only [go_sem, Nat.reduceBEq, Nat.reduceAdd, Nat.reduceMul, Nat.reduceSub, Nat.reduceLeDiff, Int.reduceAdd, Int.reduceSub, Int.reduceMul, Int.reduceLE, Int.reduceLT, Int.reduceEq, Int.reduceNeg, Int.reduceToNat, Int.reduceTDiv, Int.reduceTMod, reduceIte, Nat.reduceEqDiff, Nat.reducePow, Int.reducePow, g0, g5, g6, g7, entEl, a2]
        · have hlv : live l[i] = true := by simp [live, a1, a2]
          rw [if_pos hlv] at hfl
          refine ⟨⟨by omega, by omega⟩, ⟨by simp [szOk, strEl], by omega⟩, ⟨by omega, by omega⟩, ⟨by simp [szOk, adEl], by omega⟩, by kernel_rfl, i + 1, by omega, by omega, ⟨_, by rw [hfl, List.length_append]; rfl⟩, by rw [hfl, List.map_append]; rfl, by rw [hfl, List.map_append]; rfl, by rw [wrap_i64 (by omega) (by omega)]; rfl⟩
        · have hlv : live l[i] = false := by simp [live, a2]
          rw [if_neg (by rw [hlv]; decide), List.append_nil] at hfl
          exact ⟨i + 1, by omega, by omega, ⟨_, by rw [hfl]⟩, by rw [hfl], by rw [hfl], by rw [wrap_i64 (by omega) (by omega)]; rfl⟩
      · have hlv : live l[i] = false := by simp [live, a1]
        rw [if_neg (by rw [hlv]; decide), List.append_nil] at hfl
        exact ⟨i + 1, by omega, by omega, ⟨_, by rw [hfl]⟩, by rw [hfl], by rw [hfl], by rw [wrap_i64 (by omega) (by omega)]; rfl⟩
    · have : i = l.length := by have := toNot h3; omega
      subst this
      rw [List.take_length] at g5 g6
      rw [List.take_length]
      (first | with_reducible refine condW_not ?_ ?_ | refine condW_split ?_ ?_) <;> intro h4 <;> simp only [go_sem, Nat.reduceBEq, Nat.reduceAdd, Nat.reduceMul, Nat.reduceSub, Nat.reduceLeDiff, Int.reduceAdd, Int.reduceSub, Int.reduceMul, Int.reduceLE, Int.reduceLT, Int.reduceEq, Int.reduceNeg, Int.reduceToNat, Int.reduceTDiv, Int.reduceTMod, reduceIte, Nat.reduceEqDiff, Nat.reducePow, Int.reducePow, g5, g6, h4]
      · rw [namesV, if_pos h1, if_pos (by have := toProp h4; omega)]
      · rw [namesV, if_pos h1, if_neg (by have := toNot h4; omega)]
end Go.Proofs.YtjmldlknegbimaaDoor.Sx
