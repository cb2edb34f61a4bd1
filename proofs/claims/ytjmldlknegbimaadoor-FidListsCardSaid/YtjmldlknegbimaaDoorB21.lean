/- The reference's Lookup and Valid of directories; its Streams and Names. -/
import Derived.Test.YtjmldlknegbimaaDoorB20
set_option linter.unusedVariables false
set_option linter.unusedSimpArgs false
namespace Go.Proofs.YtjmldlknegbimaaDoor.Sx
open Go Go.RowKit
variable {G : Gl}
def hits (n : List UInt8) (g : Ent) : Bool := live g && (g.name == n)
def lookI (l : List Ent) (n : List UInt8) : Int := if seenB l n = true then (l.findIdx (hits n) : Int) else -1
theorem lookI_at {l : List Ent} {n : List UInt8} {i : Nat} (hi : i < l.length) (h : hits n l[i] = true) (hb : ∀ j (hj : j < l.length), j < i → hits n l[j] = false) : lookI l n = i := by
  have hany : seenB l n = true := List.any_eq_true.2 ⟨l[i], by simp, h⟩
  have hidx : l.findIdx (hits n) = i := (List.findIdx_eq hi).2 ⟨h, fun j hj => hb j (by omega) hj⟩
  rw [lookI, if_pos hany, hidx]
theorem lookI_none {l : List Ent} {n : List UInt8} (hb : ∀ j (hj : j < l.length), hits n l[j] = false) : lookI l n = -1 := by
  have hn : seenB l n = false := by
    unfold seenB
    rw [List.any_eq_false]
    intro x hx
    obtain ⟨j, hj, rfl⟩ := List.mem_iff_getElem.1 hx
    have := hb j hj
    unfold hits at this
    rw [this]; decide
  rw [lookI, if_neg (by rw [hn]; decide)]
theorem lookI_first (l : List Ent) (i : Nat) (hi : i < l.length) (hl : live l[i] = true) : decide (lookI l l[i].name = (i : Int)) = !seenB (l.take i) l[i].name := by
  have hh : hits l[i].name l[i] = true := by simp [hits, hl]
  cases hs : seenB (l.take i) l[i].name with
  | false =>
    unfold seenB at hs
    rw [List.any_eq_false] at hs
    have : lookI l l[i].name = i := lookI_at hi hh fun j hj hji => by
      have := hs l[j] (by rw [List.mem_take_iff_getElem]; exact ⟨j, by omega, rfl⟩)
      simpa [hits] using this
    simp [this]
  | true =>
    unfold seenB at hs
    rw [List.any_eq_true] at hs
    obtain ⟨x, hx, hx2⟩ := hs
    obtain ⟨j, hj, rfl⟩ := List.mem_take_iff_getElem.1 hx
    have hany : seenB l l[i].name = true := List.any_eq_true.2 ⟨l[i], by simp, hh⟩
    have : l.findIdx (hits l[i].name) ≤ j := by
      apply Nat.le_of_not_lt
      intro hc
      have := List.not_of_lt_findIdx hc
      unfold hits at this
      rw [hx2] at this
      contradiction
    have hne : lookI l l[i].name ≠ (i : Int) := by
      rw [lookI, if_pos hany]
      omega
    simp [hne]
set_option maxRecDepth 4000 in
theorem p_rlookup (l : List Ent) (n : List UInt8) (hl : l.length < 2 ^ 62) : PF Tryd.prog G 36 [.sl .any (l.map entEl), .str n] (.int .i64 (lookI l n)) := by
  refine PF.of_body mo Tryd.func36 rfl (by kernel_rfl) (by kernel_rfl) (by simp [Tryd.ntmps36]) ?_; simp only [go_sem, Nat.reduceBEq, Nat.reduceAdd, Nat.reduceMul, Nat.reduceSub, Nat.reduceLeDiff, Int.reduceAdd, Int.reduceSub, Int.reduceMul, Int.reduceLE, Int.reduceLT, Int.reduceEq, Int.reduceNeg, Int.reduceToNat, Int.reduceTDiv, Int.reduceTMod, reduceIte, Nat.reduceEqDiff, Nat.reducePow, Int.reducePow, Tryd.results36]
  refine wpc_loop Nat (fun i => [(0, .d (.sl .any (l.map entEl))), (1, .d (.str n)), (5, .d (.int .i64 i))]) (fun i => []) (fun i => i ≤ l.length ∧ ∀ j (h : j < l.length), j < i → hits n l[j] = false) (fun i => l.length - i) 0
    (.refl _ _) (fun i hi => ⟨Nat.zero_le _, rfl, rfl⟩) ⟨Nat.zero_le _, fun j h h2 => by omega⟩ rfl ?_ ?_
  · simp only [go_sem, Nat.reduceBEq, Nat.reduceAdd, Nat.reduceMul, Nat.reduceSub, Nat.reduceLeDiff, Int.reduceAdd, Int.reduceSub, Int.reduceMul, Int.reduceLE, Int.reduceLT, Int.reduceEq, Int.reduceNeg, Int.reduceToNat, Int.reduceTDiv, Int.reduceTMod, reduceIte, Nat.reduceEqDiff, Nat.reducePow, Int.reducePow, Int.natCast_zero]
  intro i e ⟨hi, ha⟩ ⟨g0, g1, g5, _⟩
  simp only [go_sem, Nat.reduceBEq, Nat.reduceAdd, Nat.reduceMul, Nat.reduceSub, Nat.reduceLeDiff, Int.reduceAdd, Int.reduceSub, Int.reduceMul, Int.reduceLE, Int.reduceLT, Int.reduceEq, Int.reduceNeg, Int.reduceToNat, Int.reduceTDiv, Int.reduceTMod, reduceIte, Nat.reduceEqDiff, Nat.reducePow, Int.reducePow, g0, g1, g5]
  (first | with_reducible refine condW_not ?_ ?_ | refine condW_split ?_ ?_) <;> intro h1 <;> simp only [go_sem, Nat.reduceBEq, Nat.reduceAdd, Nat.reduceMul, Nat.reduceSub, Nat.reduceLeDiff, Int.reduceAdd, Int.reduceSub, Int.reduceMul, Int.reduceLE, Int.reduceLT, Int.reduceEq, Int.reduceNeg, Int.reduceToNat, Int.reduceTDiv, Int.reduceTMod, reduceIte, Nat.reduceEqDiff, Nat.reducePow, Int.reducePow, g0, g1, g5, h1]
  · have hlt : i < l.length := by have := toProp h1; omega
    have next : hits n l[i] = false → i + 1 ≤ l.length ∧ ∀ j (h : j < l.length), j < i + 1 → hits n l[j] = false := fun hf => ⟨by omega, fun j h hj => by
      rcases Nat.lt_or_ge j i with h3 | h3
      · exact ha j h h3
      · have : j = i := by omega
        subst this; exact hf⟩
    refine ⟨⟨by omega, by omega⟩, ?_⟩
    simp only [go_sem, Nat.reduceBEq, Nat.reduceAdd, Nat.reduceMul, Nat.reduceSub, Nat.reduceLeDiff, Int.reduceAdd, Int.reduceSub, Int.reduceMul, Int.reduceLE, Int.reduceLT, Int.reduceEq, Int.reduceNeg, Int.reduceToNat, Int.reduceTDiv, Int.reduceTMod, reduceIte, Nat.reduceEqDiff, Nat.reducePow, Int.reducePow, g0, g1, g5, entEl]
    (first | with_reducible refine gO_not ?_ ?_ | with_reducible refine gT_not ?_ ?_ | refine gO_split ?_ ?_ | refine gT_split ?_ ?_) <;> intro h2 <;> simp only [go_sem, Nat.reduceBEq, Nat.reduceAdd, Nat.reduceMul, Nat.reduceSub, Nat.reduceLeDiff, Int.reduceAdd, Int.reduceSub, Int.reduceMul, Int.reduceLE, Int.reduceLT, Int.reduceEq, Int.reduceNeg, Int.reduceToNat, Int.reduceTDiv, Int.reduceTMod, reduceIte, Nat.reduceEqDiff, Nat.reducePow, Int.reducePow, g0, g1, g5, entEl, h2]
    · refine ⟨⟨by omega, by omega⟩, ?_⟩
      (first | with_reducible refine gO_not ?_ ?_ | with_reducible refine gT_not ?_ ?_ | refine gO_split ?_ ?_ | refine gT_split ?_ ?_) <;> intro h3 <;> simp only [go_sem, Nat.reduceBEq, Nat.reduceAdd, Nat.reduceMul, Nat.reduceSub, Nat.reduceLeDiff, Int.reduceAdd, Int.reduceSub, Int.reduceMul, Int.reduceLE, Int.reduceLT, Int.reduceEq, Int.reduceNeg, Int.reduceToNat, Int.reduceTDiv, Int.reduceTMod, reduceIte, Nat.reduceEqDiff, Nat.reducePow, Int.reducePow, g0, g1, g5, entEl, h3]
      · refine ⟨⟨by omega, by omega⟩, ?_⟩
        (first | with_reducible refine condW_not ?_ ?_ | refine condW_split ?_ ?_) <;> intro h4 <;> simp only [go_sem, Nat.reduceBEq, Nat.reduceAdd, Nat.reduceMul, Nat.reduceSub, Nat.reduceLeDiff, Int.reduceAdd, Int.reduceSub, Int.reduceMul, Int.reduceLE, Int.reduceLT, Int.reduceEq, Int.reduceNeg, Int.reduceToNat, Int.reduceTDiv, Int.reduceTMod, reduceIte, Nat.reduceEqDiff, Nat.reducePow, Int.reducePow, g0, g1, g5, entEl, h4]
        · rw [lookI_at hlt (by simpa [hits, live, h2, h3] using h4) ha]
        · exact ⟨i + 1, next (by simpa [hits, live, h2, h3] using h4), by omega, ⟨_, rfl⟩, by rw [wrap_i64 (by omega) (by omega)]; rfl⟩
      · exact ⟨i + 1, next (by simp [hits, live, h3]), by omega, ⟨_, rfl⟩, by rw [wrap_i64 (by omega) (by omega)]; rfl⟩
    · exact ⟨i + 1, next (by simp [hits, live, h2]), by omega, ⟨_, rfl⟩, by rw [wrap_i64 (by omega) (by omega)]; rfl⟩
  · rw [lookI_none fun j hj => ha j hj (by have := toNot h1; omega)]
set_option maxRecDepth 8000 in
theorem p_rvalidF (l : List Ent) (hl : l.length < 2 ^ 62) : PF Tryd.prog G 34 [.sl .any (l.map entEl)] (.bool (validF l)) := by
  refine PF.of_body mo Tryd.func34 rfl (by kernel_rfl) (by kernel_rfl) (by simp [Tryd.ntmps34]) ?_; simp only [go_sem, Nat.reduceBEq, Nat.reduceAdd, Nat.reduceMul, Nat.reduceSub, Nat.reduceLeDiff, Int.reduceAdd, Int.reduceSub, Int.reduceMul, Int.reduceLE, Int.reduceLT, Int.reduceEq, Int.reduceNeg, Int.reduceToNat, Int.reduceTDiv, Int.reduceTMod, reduceIte, Nat.reduceEqDiff, Nat.reducePow, Int.reducePow, Tryd.results34]
  have no : (l.length < 1 ∨ 1024 < l.length) → validF l = false := fun h => by rw [validF, Bool.and_eq_false_iff]; left; simp; omega
  (first | with_reducible refine gO_not ?_ ?_ | with_reducible refine gT_not ?_ ?_ | refine gO_split ?_ ?_ | refine gT_split ?_ ?_) <;> intro h1 <;> simp only [go_sem, Nat.reduceBEq, Nat.reduceAdd, Nat.reduceMul, Nat.reduceSub, Nat.reduceLeDiff, Int.reduceAdd, Int.reduceSub, Int.reduceMul, Int.reduceLE, Int.reduceLT, Int.reduceEq, Int.reduceNeg, Int.reduceToNat, Int.reduceTDiv, Int.reduceTMod, reduceIte, Nat.reduceEqDiff, Nat.reducePow, Int.reducePow, h1]
  · (first | with_reducible refine condW_not ?_ ?_ | refine condW_split ?_ ?_) <;> intro h2 <;> simp only [go_sem, Nat.reduceBEq, Nat.reduceAdd, Nat.reduceMul, Nat.reduceSub, Nat.reduceLeDiff, Int.reduceAdd, Int.reduceSub, Int.reduceMul, Int.reduceLE, Int.reduceLT, Int.reduceEq, Int.reduceNeg, Int.reduceToNat, Int.reduceTDiv, Int.reduceTMod, reduceIte, Nat.reduceEqDiff, Nat.reducePow, Int.reducePow, h2]
    · rw [no (by have := toProp h2; omega)]
    · have hb : decide (1 ≤ l.length ∧ l.length ≤ 1024) = true := by have := toNot h1; have := toNot h2; simp; omega
      have hv : validF l = (List.range l.length).all (okAt l) := by rw [validF, hb, Bool.true_and]
      rw [hv]
      refine wpc_loop Nat (fun i => [(0, .d (.sl .any (l.map entEl))), (3, .d (.int .i64 i))]) (fun i => []) (fun i => i ≤ l.length ∧ (List.range i).all (okAt l) = true) (fun i => l.length - i) 0
        (.refl _ _) (fun i hi => ⟨Nat.zero_le _, rfl, rfl⟩) ⟨Nat.zero_le _, rfl⟩ rfl ?_ ?_
      · simp only [go_sem, Nat.reduceBEq, Nat.reduceAdd, Nat.reduceMul, Nat.reduceSub, Nat.reduceLeDiff, Int.reduceAdd, Int.reduceSub, Int.reduceMul, Int.reduceLE, Int.reduceLT, Int.reduceEq, Int.reduceNeg, Int.reduceToNat, Int.reduceTDiv, Int.reduceTMod, reduceIte, Nat.reduceEqDiff, Nat.reducePow, Int.reducePow, Int.natCast_zero]
      intro i e ⟨hi, ha⟩ ⟨g0, g3, _⟩
      simp only [go_sem, Nat.reduceBEq, Nat.reduceAdd, Nat.reduceMul, Nat.reduceSub, Nat.reduceLeDiff, Int.reduceAdd, Int.reduceSub, Int.reduceMul, Int.reduceLE, Int.reduceLT, Int.reduceEq, Int.reduceNeg, Int.reduceToNat, Int.reduceTDiv, Int.reduceTMod, reduceIte, Nat.reduceEqDiff, Nat.reducePow, Int.reducePow, g0, g3]
      (first | with_reducible refine condW_not ?_ ?_ | refine condW_split ?_ ?_) <;> intro h3 <;> simp only [go_sem, Nat.reduceBEq, Nat.reduceAdd, Nat.reduceMul, Nat.reduceSub, Nat.reduceLeDiff, Int.reduceAdd, Int.reduceSub, Int.reduceMul, Int.reduceLE, Int.reduceLT, Int.reduceEq, Int.reduceNeg, Int.reduceToNat, Int.reduceTDiv, Int.reduceTMod, reduceIte, Nat.reduceEqDiff, Nat.reducePow, Int.reducePow, g0, g3, h3]
      · have hlt : i < l.length := by have := toProp h3; omega
        have hg : l.getD i default = l[i] := by simp [List.getD_eq_getElem?_getD, hlt]
        have pn := p_entry (G := G) l[i]
        have bad : okAt l i = false → (List.range l.length).all (okAt l) = false := range_all_no _ _ _ hlt
        have ok : okAt l i = (entOk l[i] && ((l[i].par == decide ((i : Int) = 0)) && (!live l[i] || !seenB (l.take i) l[i].name))) := by rw [okAt, hg]
        have go : okAt l i = true → i + 1 ≤ l.length ∧ (List.range (i + 1)).all (okAt l) = true := fun h => ⟨by omega, by rw [range_all_succ', ha, h]; rfl⟩
        have pl := p_rlookup (G := G) l l[i].name hl
        refine ⟨⟨by omega, by omega⟩, ?_⟩
        simp only [go_sem, Nat.reduceBEq, Nat.reduceAdd, Nat.reduceMul, Nat.reduceSub, Nat.reduceLeDiff, Int.reduceAdd, Int.reduceSub, Int.reduceMul, Int.reduceLE, Int.reduceLT, Int.reduceEq, Int.reduceNeg, Int.reduceToNat, Int.reduceTDiv, Int.reduceTMod, reduceIte, Nat.reduceEqDiff, Nat.reducePow, Int.reducePow, g0, g3, entEl]
        refine callK_pf (pn) (by first | (simp only [go_sem, Nat.reduceBEq, Nat.reduceAdd, Nat.reduceMul, Nat.reduceSub, Nat.reduceLeDiff, Int.reduceAdd, Int.reduceSub, Int.reduceMul, Int.reduceLE, Int.reduceLT, Int.reduceEq, Int.reduceNeg, Int.reduceToNat, Int.reduceTDiv, Int.reduceTMod, reduceIte, Nat.reduceEqDiff, Nat.reducePow, Int.reducePow]; done) | (simp only [go_sem, Nat.reduceBEq, Nat.reduceAdd, Nat.reduceMul, Nat.reduceSub, Nat.reduceLeDiff, Int.reduceAdd, Int.reduceSub, Int.reduceMul, Int.reduceLE, Int.reduceLT, Int.reduceEq, Int.reduceNeg, Int.reduceToNat, Int.reduceTDiv, Int.reduceTMod, reduceIte, Nat.reduceEqDiff, Nat.reducePow, Int.reducePow]; rfl) | rfl) ?_; simp only [go_sem, Nat.reduceBEq, Nat.reduceAdd, Nat.reduceMul, Nat.reduceSub, Nat.reduceLeDiff, Int.reduceAdd, Int.reduceSub, Int.reduceMul, Int.reduceLE, Int.reduceLT, Int.reduceEq, Int.reduceNeg, Int.reduceToNat, Int.reduceTDiv, Int.reduceTMod, reduceIte, Nat.reduceEqDiff, Nat.reducePow, Int.reducePow, g0, g3, entEl]
        (first | with_reducible refine gO_not ?_ ?_ | with_reducible refine gT_not ?_ ?_ | refine gO_split ?_ ?_ | refine gT_split ?_ ?_) <;> intro h4 <;> simp only [go_sem, Nat.reduceBEq, Nat.reduceAdd, Nat.reduceMul, Nat.reduceSub, Nat.reduceLeDiff, Int.reduceAdd, Int.reduceSub, Int.reduceMul, Int.reduceLE, Int.reduceLT, Int.reduceEq, Int.reduceNeg, Int.reduceToNat, Int.reduceTDiv, Int.reduceTMod, reduceIte, Nat.reduceEqDiff, Nat.reducePow, Int.reducePow, g0, g3, entEl, h4]
        · have he : entOk l[i] = true := h4
          refine ⟨⟨by omega, by omega⟩, ?_⟩
          (first | with_reducible refine condW_not ?_ ?_ | refine condW_split ?_ ?_) <;> intro h5 <;> simp only [go_sem, Nat.reduceBEq, Nat.reduceAdd, Nat.reduceMul, Nat.reduceSub, Nat.reduceLeDiff, Int.reduceAdd, Int.reduceSub, Int.reduceMul, Int.reduceLE, Int.reduceLT, Int.reduceEq, Int.reduceNeg, Int.reduceToNat, Int.reduceTDiv, Int.reduceTMod, reduceIte, Nat.reduceEqDiff, Nat.reducePow, Int.reducePow, g0, g3, entEl, h5]
          · rw [bad (by rw [ok, he]; simp only [h5]; simp)]
          · (first | with_reducible refine gO_not ?_ ?_ | with_reducible refine gT_not ?_ ?_ | refine gO_split ?_ ?_ | refine gT_split ?_ ?_) <;> intro h6 <;> simp only [go_sem, Nat.reduceBEq, Nat.reduceAdd, Nat.reduceMul, Nat.reduceSub, Nat.reduceLeDiff, Int.reduceAdd, Int.reduceSub, Int.reduceMul, Int.reduceLE, Int.reduceLT, Int.reduceEq, Int.reduceNeg, Int.reduceToNat, Int.reduceTDiv, Int.reduceTMod, reduceIte, Nat.reduceEqDiff, Nat.reducePow, Int.reducePow, g0, g3, entEl, h6]
            · have hp : l[i].par = false := by
                have h6' := toProp h6
                have : decide ((i : Int) = 0) = false := by simp; omega
                rw [this] at h5
                simpa using h5
              refine ⟨⟨by omega, by omega⟩, ?_⟩
              (first | with_reducible refine gO_not ?_ ?_ | with_reducible refine gT_not ?_ ?_ | refine gO_split ?_ ?_ | refine gT_split ?_ ?_) <;> intro h7 <;> simp only [go_sem, Nat.reduceBEq, Nat.reduceAdd, Nat.reduceMul, Nat.reduceSub, Nat.reduceLeDiff, Int.reduceAdd, Int.reduceSub, Int.reduceMul, Int.reduceLE, Int.reduceLT, Int.reduceEq, Int.reduceNeg, Int.reduceToNat, Int.reduceTDiv, Int.reduceTMod, reduceIte, Nat.reduceEqDiff, Nat.reducePow, Int.reducePow, g0, g3, entEl, h7]
              · have hlv : live l[i] = true := by simp [live, h7, hp]
                have hf := lookI_first l i hlt hlv
                refine ⟨⟨by omega, by omega⟩, ?_⟩
                refine callK_pf (pl) (by first | (simp only [go_sem, Nat.reduceBEq, Nat.reduceAdd, Nat.reduceMul, Nat.reduceSub, Nat.reduceLeDiff, Int.reduceAdd, Int.reduceSub, Int.reduceMul, Int.reduceLE, Int.reduceLT, Int.reduceEq, Int.reduceNeg, Int.reduceToNat, Int.reduceTDiv, Int.reduceTMod, reduceIte, Nat.reduceEqDiff, Nat.reducePow, Int.reducePow]; done) | (simp only [go_sem, Nat.reduceBEq, Nat.reduceAdd, Nat.reduceMul, Nat.reduceSub, Nat.reduceLeDiff, Int.reduceAdd, Int.reduceSub, Int.reduceMul, Int.reduceLE, Int.reduceLT, Int.reduceEq, Int.reduceNeg, Int.reduceToNat, Int.reduceTDiv, Int.reduceTMod, reduceIte, Nat.reduceEqDiff, Nat.reducePow, Int.reducePow]; rfl) | rfl) ?_; simp only [go_sem, Nat.reduceBEq, Nat.reduceAdd, Nat.reduceMul, Nat.reduceSub, Nat.reduceLeDiff, Int.reduceAdd, Int.reduceSub, Int.reduceMul, Int.reduceLE, Int.reduceLT, Int.reduceEq, Int.reduceNeg, Int.reduceToNat, Int.reduceTDiv, Int.reduceTMod, reduceIte, Nat.reduceEqDiff, Nat.reducePow, Int.reducePow, g0, g3, entEl]
                (first | with_reducible refine condW_not ?_ ?_ | refine condW_split ?_ ?_) <;> intro h8 <;> simp only [go_sem, Nat.reduceBEq, Nat.reduceAdd, Nat.reduceMul, Nat.reduceSub, Nat.reduceLeDiff, Int.reduceAdd, Int.reduceSub, Int.reduceMul, Int.reduceLE, Int.reduceLT, Int.reduceEq, Int.reduceNeg, Int.reduceToNat, Int.reduceTDiv, Int.reduceTMod, reduceIte, Nat.reduceEqDiff, Nat.reducePow, Int.reducePow, g0, g3, entEl, h8]
                · have h8' := h8
                  rw [hf] at h8'
                  rw [bad (by rw [ok, hlv, h8']; simp)]
                · have h8' := h8
                  rw [hf] at h8'
                  have ho : okAt l i = true := by rw [ok, he, hlv, h8', h5]; rfl
                  exact ⟨i + 1, go ho, by omega, ⟨_, rfl⟩, by rw [wrap_i64 (by omega) (by omega)]; rfl⟩
              · have hlv : live l[i] = false := by simp [live, h7]
                have ho : okAt l i = true := by rw [ok, he, hlv, h5]; rfl
                exact ⟨i + 1, go ho, by omega, ⟨_, rfl⟩, by rw [wrap_i64 (by omega) (by omega)]; rfl⟩
            · have hi0 : i = 0 := by have := toNot h6; omega
              have hp : l[i].par = true := by
                have : decide ((i : Int) = 0) = true := by simp; omega
                rw [this] at h5
                simpa using h5
              have hlv : live l[i] = false := by simp [live, hp]
              have ho : okAt l i = true := by rw [ok, he, hlv, h5]; rfl
              exact ⟨i + 1, go ho, by omega, ⟨_, rfl⟩, by rw [wrap_i64 (by omega) (by omega)]; rfl⟩
        · have he : entOk l[i] = false := h4
          rw [bad (by rw [ok, he]; simp)]
      · have : i = l.length := by have := toNot h3; omega
        subst this
        rw [ha]
  · rw [no (by have := toProp h1; omega)]
end Go.Proofs.YtjmldlknegbimaaDoor.Sx
