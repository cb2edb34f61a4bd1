/- The reference of chapter 35: EncodeAll, DecodeAll. -/
import Derived.Test.YtjmldlknegbimaaGreatDoorB34
set_option linter.unusedVariables false
set_option linter.unusedSimpArgs false
namespace Go.Proofs.YtjmldlknegbimaaGreatDoor.Sx
open Go Go.RowKit
variable {G : Gl}
theorem enfE_two (f : Ent) (loc : Int) (h : entOk f = true) : enfE f loc = if wordB loc = true then 0 else 2 := by
  obtain ⟨b1, b2, b3, b4, b5⟩ := fidBody_len2 f h
  unfold enfE
  rw [if_pos h]
  by_cases hw : wordB loc = true
  · have hr : rangedB 257 1 loc = true := by
      simp only [wordB, Bool.and_eq_true, decide_eq_true_eq] at hw
      unfold rangedB
      exact decide_eq_true (by omega)
    rw [if_pos hw, if_pos hw, if_pos hr, if_neg (by omega)]
  · rw [if_neg hw, if_neg hw]
set_option maxRecDepth 8000 in
theorem p_rencodeAll (l : List Ent) (bl : List Int) (hl : l.length < 2 ^ 40) (hb : bl.length < 2 ^ 40) : PF Tryz.prog G 15 [.sl .any (l.map entEl), .sl .any (bl.map intEl)] (encAllV l bl) := by
  refine PF.of_body mo Tryz.func15 rfl (by kernel_rfl) (by kernel_rfl) (by simp [Tryz.ntmps15]) ?_; simp only [go_sem, Nat.reduceBEq, Nat.reduceAdd, Nat.reduceMul, Nat.reduceSub, Nat.reduceLeDiff, Int.reduceAdd, Int.reduceSub, Int.reduceMul, Int.reduceLE, Int.reduceLT, Int.reduceEq, Int.reduceNeg, Int.reduceToNat, Int.reduceTDiv, Int.reduceTMod, reduceIte, Nat.reduceEqDiff, Nat.reducePow, Int.reducePow, Tryz.results15]
  (first | with_reducible refine condW_not ?_ ?_ | refine condW_split ?_ ?_) <;> intro h0 <;> simp only [go_sem, Nat.reduceBEq, Nat.reduceAdd, Nat.reduceMul, Nat.reduceSub, Nat.reduceLeDiff, Int.reduceAdd, Int.reduceSub, Int.reduceMul, Int.reduceLE, Int.reduceLT, Int.reduceEq, Int.reduceNeg, Int.reduceToNat, Int.reduceTDiv, Int.reduceTMod, reduceIte, Nat.reduceEqDiff, Nat.reducePow, Int.reducePow, h0]
  · have := toProp h0
    rw [encAllV, encAllP, if_pos (by omega)]
  have hn0 := toNot h0
  have hv : encAllP l bl = encL bl l [] := by rw [encAllP, if_neg (by omega)]
  rw [encAllV, hv]
  refine wpc_loop (Nat × List UInt8) (fun q => [(0, .d (.sl .any (l.map entEl))), (1, .d (.sl .any (bl.map intEl))), (6, .d (.str q.2)), (7, .d (.int .i64 q.1))])
    (fun q => []) (fun q => q.1 ≤ l.length ∧ q.2.length ≤ 65551 * q.1 ∧ encL bl l [] = encL bl (l.drop q.1) q.2) (fun q => l.length - q.1) (0, [])
    (.refl _ _) (fun q hq => ⟨Nat.zero_le _, rfl, rfl⟩) ⟨Nat.zero_le _, Nat.le_refl _, rfl⟩ rfl ?_ ?_
  · simp only [go_sem, Nat.reduceBEq, Nat.reduceAdd, Nat.reduceMul, Nat.reduceSub, Nat.reduceLeDiff, Int.reduceAdd, Int.reduceSub, Int.reduceMul, Int.reduceLE, Int.reduceLT, Int.reduceEq, Int.reduceNeg, Int.reduceToNat, Int.reduceTDiv, Int.reduceTMod, reduceIte, Nat.reduceEqDiff, Nat.reducePow, Int.reducePow]
    rfl
  rintro ⟨i, acc⟩ e ⟨hi, ha, hr⟩ ⟨g0, g1, g6, g7, _⟩
  simp only at hi ha hr g6 g7
  simp only [go_sem, Nat.reduceBEq, Nat.reduceAdd, Nat.reduceMul, Nat.reduceSub, Nat.reduceLeDiff, Int.reduceAdd, Int.reduceSub, Int.reduceMul, Int.reduceLE, Int.reduceLT, Int.reduceEq, Int.reduceNeg, Int.reduceToNat, Int.reduceTDiv, Int.reduceTMod, reduceIte, Nat.reduceEqDiff, Nat.reducePow, Int.reducePow, g0, g1, g6, g7]
  (first | with_reducible refine condW_not ?_ ?_ | refine condW_split ?_ ?_) <;> intro h1 <;> simp only [go_sem, Nat.reduceBEq, Nat.reduceAdd, Nat.reduceMul, Nat.reduceSub, Nat.reduceLeDiff, Int.reduceAdd, Int.reduceSub, Int.reduceMul, Int.reduceLE, Int.reduceLT, Int.reduceEq, Int.reduceNeg, Int.reduceToNat, Int.reduceTDiv, Int.reduceTMod, reduceIte, Nat.reduceEqDiff, Nat.reducePow, Int.reducePow, g0, g1, g6, g7, h1]
  · have hlt : i < l.length := by have := toProp h1; omega
    have hd : l.drop i = l[i] :: l.drop (i + 1) := List.drop_eq_getElem_cons hlt
    obtain ⟨f, hf⟩ : ∃ f, l[i] = f := ⟨_, rfl⟩
    have pn := p_entry2 (G := G) f
    simp only [entEl] at pn
    rw [hd, hf] at hr
    have wI : IntKind.i64.wrap ((i : Int) + 1) = ((i + 1 : Nat) : Int) := by rw [wrap_i64 (by omega) (by omega)]; rfl
    have wQ : IntKind.i64.wrap ((acc.length : Int).tdiv 2048) = ((acc.length / 2048 : Nat) : Int) := by rw [Int.tdiv_eq_ediv_of_nonneg (by omega), wrap_i64 (by omega) (by omega)]; omega
    refine ⟨⟨by omega, by omega⟩, ?_⟩
    simp only [go_sem, Nat.reduceBEq, Nat.reduceAdd, Nat.reduceMul, Nat.reduceSub, Nat.reduceLeDiff, Int.reduceAdd, Int.reduceSub, Int.reduceMul, Int.reduceLE, Int.reduceLT, Int.reduceEq, Int.reduceNeg, Int.reduceToNat, Int.reduceTDiv, Int.reduceTMod, reduceIte, Nat.reduceEqDiff, Nat.reducePow, Int.reducePow, g0, g1, g6, g7, hf, wI, wQ, entEl]
    refine callK_pf (pn) (by first | (simp only [go_sem, Nat.reduceBEq, Nat.reduceAdd, Nat.reduceMul, Nat.reduceSub, Nat.reduceLeDiff, Int.reduceAdd, Int.reduceSub, Int.reduceMul, Int.reduceLE, Int.reduceLT, Int.reduceEq, Int.reduceNeg, Int.reduceToNat, Int.reduceTDiv, Int.reduceTMod, reduceIte, Nat.reduceEqDiff, Nat.reducePow, Int.reducePow]; done) | (simp only [go_sem, Nat.reduceBEq, Nat.reduceAdd, Nat.reduceMul, Nat.reduceSub, Nat.reduceLeDiff, Int.reduceAdd, Int.reduceSub, Int.reduceMul, Int.reduceLE, Int.reduceLT, Int.reduceEq, Int.reduceNeg, Int.reduceToNat, Int.reduceTDiv, Int.reduceTMod, reduceIte, Nat.reduceEqDiff, Nat.reducePow, Int.reducePow]; rfl) | rfl) ?_; simp only [go_sem, Nat.reduceBEq, Nat.reduceAdd, Nat.reduceMul, Nat.reduceSub, Nat.reduceLeDiff, Int.reduceAdd, Int.reduceSub, Int.reduceMul, Int.reduceLE, Int.reduceLT, Int.reduceEq, Int.reduceNeg, Int.reduceToNat, Int.reduceTDiv, Int.reduceTMod, reduceIte, Nat.reduceEqDiff, Nat.reducePow, Int.reducePow, g0, g1, g6, g7, hf, wI, wQ, entEl]
    (first | with_reducible refine condW_not ?_ ?_ | refine condW_split ?_ ?_) <;> intro h2 <;> simp only [go_sem, Nat.reduceBEq, Nat.reduceAdd, Nat.reduceMul, Nat.reduceSub, Nat.reduceLeDiff, Int.reduceAdd, Int.reduceSub, Int.reduceMul, Int.reduceLE, Int.reduceLT, Int.reduceEq, Int.reduceNeg, Int.reduceToNat, Int.reduceTDiv, Int.reduceTMod, reduceIte, Nat.reduceEqDiff, Nat.reducePow, Int.reducePow, g0, g1, g6, g7, hf, wI, wQ, entEl, h2]
    · rw [hr, encL, if_pos h2]
    have hE := enfE_two f (locB bl acc.length) h2
    (first | with_reducible refine gO_not ?_ ?_ | with_reducible refine gT_not ?_ ?_ | refine gO_split ?_ ?_ | refine gT_split ?_ ?_) <;> intro h3 <;> simp only [go_sem, Nat.reduceBEq, Nat.reduceAdd, Nat.reduceMul, Nat.reduceSub, Nat.reduceLeDiff, Int.reduceAdd, Int.reduceSub, Int.reduceMul, Int.reduceLE, Int.reduceLT, Int.reduceEq, Int.reduceNeg, Int.reduceToNat, Int.reduceTDiv, Int.reduceTMod, reduceIte, Nat.reduceEqDiff, Nat.reducePow, Int.reducePow, g0, g1, g6, g7, hf, wI, wQ, entEl, h3]
    · have h3' := h3
      have hq : acc.length / 2048 < bl.length := by
        have := of_decide_eq_false h3'
        omega
      have hB : hasB bl acc.length = true := by unfold hasB; exact decide_eq_true hq
      have hbl : bl[acc.length / 2048] = locB bl acc.length := by simp [locB, List.getD_eq_getElem?_getD, hq]
      refine ⟨⟨by omega, by omega⟩, ?_⟩
      simp only [hbl]
      refine callK_pf (p_rfword (locB bl acc.length)) (by first | (simp only [go_sem, Nat.reduceBEq, Nat.reduceAdd, Nat.reduceMul, Nat.reduceSub, Nat.reduceLeDiff, Int.reduceAdd, Int.reduceSub, Int.reduceMul, Int.reduceLE, Int.reduceLT, Int.reduceEq, Int.reduceNeg, Int.reduceToNat, Int.reduceTDiv, Int.reduceTMod, reduceIte, Nat.reduceEqDiff, Nat.reducePow, Int.reducePow]; done) | (simp only [go_sem, Nat.reduceBEq, Nat.reduceAdd, Nat.reduceMul, Nat.reduceSub, Nat.reduceLeDiff, Int.reduceAdd, Int.reduceSub, Int.reduceMul, Int.reduceLE, Int.reduceLT, Int.reduceEq, Int.reduceNeg, Int.reduceToNat, Int.reduceTDiv, Int.reduceTMod, reduceIte, Nat.reduceEqDiff, Nat.reducePow, Int.reducePow]; rfl) | rfl) ?_; simp only [go_sem, Nat.reduceBEq, Nat.reduceAdd, Nat.reduceMul, Nat.reduceSub, Nat.reduceLeDiff, Int.reduceAdd, Int.reduceSub, Int.reduceMul, Int.reduceLE, Int.reduceLT, Int.reduceEq, Int.reduceNeg, Int.reduceToNat, Int.reduceTDiv, Int.reduceTMod, reduceIte, Nat.reduceEqDiff, Nat.reducePow, Int.reducePow, g0, g1, g6, g7, hf, wI, wQ, entEl]
      (first | with_reducible refine condW_not ?_ ?_ | refine condW_split ?_ ?_) <;> intro h4 <;> simp only [go_sem, Nat.reduceBEq, Nat.reduceAdd, Nat.reduceMul, Nat.reduceSub, Nat.reduceLeDiff, Int.reduceAdd, Int.reduceSub, Int.reduceMul, Int.reduceLE, Int.reduceLT, Int.reduceEq, Int.reduceNeg, Int.reduceToNat, Int.reduceTDiv, Int.reduceTMod, reduceIte, Nat.reduceEqDiff, Nat.reducePow, Int.reducePow, g0, g1, g6, g7, hf, wI, wQ, entEl, h4]
      · rw [if_neg (by rw [h4]; decide)] at hE
        rw [hr, encL, if_neg (by rw [h2]; decide), if_neg (by rw [hB]; decide), if_neg (by rw [hE]; decide), hE]
      · rw [if_pos h4] at hE
        have pe := p_rfencode (G := G) f (locB bl acc.length)
        rw [encF_eq] at pe
        simp only [entEl] at pe
        have hle := enfS_le f (locB bl acc.length)
        refine ⟨⟨by omega, hlt⟩, ⟨by omega, by omega⟩, ?_⟩
        simp only [hbl]
        refine callKT_pf (pe) (by first | (simp only [go_sem, Nat.reduceBEq, Nat.reduceAdd, Nat.reduceMul, Nat.reduceSub, Nat.reduceLeDiff, Int.reduceAdd, Int.reduceSub, Int.reduceMul, Int.reduceLE, Int.reduceLT, Int.reduceEq, Int.reduceNeg, Int.reduceToNat, Int.reduceTDiv, Int.reduceTMod, reduceIte, Nat.reduceEqDiff, Nat.reducePow, Int.reducePow]; done) | (simp only [go_sem, Nat.reduceBEq, Nat.reduceAdd, Nat.reduceMul, Nat.reduceSub, Nat.reduceLeDiff, Int.reduceAdd, Int.reduceSub, Int.reduceMul, Int.reduceLE, Int.reduceLT, Int.reduceEq, Int.reduceNeg, Int.reduceToNat, Int.reduceTDiv, Int.reduceTMod, reduceIte, Nat.reduceEqDiff, Nat.reducePow, Int.reducePow]; rfl) | rfl) ?_; simp only [go_sem, Nat.reduceBEq, Nat.reduceAdd, Nat.reduceMul, Nat.reduceSub, Nat.reduceLeDiff, Int.reduceAdd, Int.reduceSub, Int.reduceMul, Int.reduceLE, Int.reduceLT, Int.reduceEq, Int.reduceNeg, Int.reduceToNat, Int.reduceTDiv, Int.reduceTMod, reduceIte, Nat.reduceEqDiff, Nat.reducePow, Int.reducePow, g0, g1, g6, g7, hf, wI, wQ, entEl]
        refine ⟨by kernel_rfl, by omega, (i + 1, acc ++ enfS f (locB bl acc.length)), ⟨hlt, by simp only [List.length_append]; omega, ?_⟩, by show l.length - (i + 1) < _; omega, ⟨_, rfl⟩, ?_⟩
        · rw [hr, encL, if_neg (by rw [h2]; decide), if_neg (by rw [hB]; decide), if_pos hE]
        · exact ⟨rfl, rfl⟩
    · have hq : ¬ acc.length / 2048 < bl.length := by have := of_decide_eq_true h3; omega
      have hB : hasB bl acc.length = false := by unfold hasB; exact decide_eq_false hq
      rw [hr, encL, if_neg (by rw [h2]; decide), if_pos hB]
  · have : i = l.length := by have := toNot h1; omega
    subst this
    rw [List.drop_length, encL] at hr
    rw [hr]
theorem p_rfdec2 (s : List UInt8) (loc : Int) (hs : s.length < 2 ^ 30) : ∃ (f : Ent) (sz : Nat) (er : Int), PF Tryz.prog G 12 [.str s, .int .i64 loc] (.tup [.agg (entEl f), .int .i64 sz, .int .i64 er]) ∧
    ((decF s loc = none ∧ f = ent0 ∧ sz = 0 ∧ er = 10) ∨ (decF s loc = some (f, sz) ∧ er = 0)) := by
  have h := p_rfdecode (G := G) s loc hs
  rcases hd : decF s loc with _ | ⟨f, sz⟩
  · exact ⟨ent0, 0, 10, by rw [decFV_none hd] at h; exact h, .inl ⟨rfl, rfl, rfl, rfl⟩⟩
  · exact ⟨f, sz, 0, by rw [decFV_some hd] at h; exact h, .inr ⟨rfl, rfl⟩⟩
theorem decAllV_of {s : List UInt8} {bl : List Int} {n : Int} {l : List Ent} {f : Ent} (h : scanF s bl = (n, l, f)) (hn : n ≠ 0) : decAllV s bl = .tup [.sl .any [], .int .i64 n] := by
  rw [decAllV, h, if_neg hn]
set_option maxRecDepth 8000 in
theorem p_rdecodeAll (s : List UInt8) (bl : List Int) (hs : s.length < 2 ^ 30) (hl : bl.length < 2 ^ 40) : PF Tryz.prog G 17 [.str s, .sl .any (bl.map intEl)] (decAllV s bl) := by
  refine PF.of_body mo Tryz.func17 rfl (by kernel_rfl) (by kernel_rfl) (by simp [Tryz.ntmps17]) ?_; simp only [go_sem, Nat.reduceBEq, Nat.reduceAdd, Nat.reduceMul, Nat.reduceSub, Nat.reduceLeDiff, Int.reduceAdd, Int.reduceSub, Int.reduceMul, Int.reduceLE, Int.reduceLT, Int.reduceEq, Int.reduceNeg, Int.reduceToNat, Int.reduceTDiv, Int.reduceTMod, reduceIte, Nat.reduceEqDiff, Nat.reducePow, Int.reducePow, Tryz.results17]
  refine wpc_loop (Nat × Nat × List Ent) (fun q => [(0, .d (.str s)), (1, .d (.sl .any (bl.map intEl))), (6, .tsl 0 (q.2.2.map entEl)), (7, .d (.int .i64 q.2.1))])
    (fun q => [.tok 9 q.2.2.length])
    (fun q => q.2.1 ≤ s.length ∧ s.length + 1 ≤ q.1 + q.2.1 ∧ q.2.2.length ≤ 1024 ∧ scanF s bl = ((scanN s bl q.1 q.2.1 q.2.2.length).1, q.2.2 ++ (scanN s bl q.1 q.2.1 q.2.2.length).2.1, (scanN s bl q.1 q.2.1 q.2.2.length).2.2)) (fun q => s.length - q.2.1) (s.length + 1, 0, [])
    (.step _ _ 6 .full [] 9 _ _ rfl (by decide) (.refl _ _)) (fun q hq => ⟨Nat.zero_le _, rfl, rfl⟩) ⟨Nat.zero_le _, Nat.le_refl _, Nat.zero_le _, by simp [scanF]⟩ rfl ?_ ?_
  · simp only [go_sem, Nat.reduceBEq, Nat.reduceAdd, Nat.reduceMul, Nat.reduceSub, Nat.reduceLeDiff, Int.reduceAdd, Int.reduceSub, Int.reduceMul, Int.reduceLE, Int.reduceLT, Int.reduceEq, Int.reduceNeg, Int.reduceToNat, Int.reduceTDiv, Int.reduceTMod, reduceIte, Nat.reduceEqDiff, Nat.reducePow, Int.reducePow]
    rfl
  rintro ⟨k, off, acc⟩ e ⟨i1, i2, i3, i4⟩ ⟨g0, g1, g6, g7, _⟩
  simp only at i1 i2 i3 i4 g6 g7
  simp only [go_sem, Nat.reduceBEq, Nat.reduceAdd, Nat.reduceMul, Nat.reduceSub, Nat.reduceLeDiff, Int.reduceAdd, Int.reduceSub, Int.reduceMul, Int.reduceLE, Int.reduceLT, Int.reduceEq, Int.reduceNeg, Int.reduceToNat, Int.reduceTDiv, Int.reduceTMod, reduceIte, Nat.reduceEqDiff, Nat.reducePow, Int.reducePow, g0, g1, g6, g7]
  (first | with_reducible refine condW_not ?_ ?_ | refine condW_split ?_ ?_) <;> intro h1 <;> simp only [go_sem, Nat.reduceBEq, Nat.reduceAdd, Nat.reduceMul, Nat.reduceSub, Nat.reduceLeDiff, Int.reduceAdd, Int.reduceSub, Int.reduceMul, Int.reduceLE, Int.reduceLT, Int.reduceEq, Int.reduceNeg, Int.reduceToNat, Int.reduceTDiv, Int.reduceTMod, reduceIte, Nat.reduceEqDiff, Nat.reducePow, Int.reducePow, g0, g1, g6, g7, h1]
  · have hlt : off < s.length := by have := toProp h1; omega
    obtain ⟨k, rfl⟩ : ∃ k', k = k' + 1 := ⟨k - 1, by omega⟩
    have wQ : IntKind.i64.wrap ((off : Int).tdiv 2048) = ((off / 2048 : Nat) : Int) := by rw [Int.tdiv_eq_ediv_of_nonneg (by omega), wrap_i64 (by omega) (by omega)]; omega
    (first | with_reducible refine condW_not ?_ ?_ | refine condW_split ?_ ?_) <;> intro h2 <;> simp only [go_sem, Nat.reduceBEq, Nat.reduceAdd, Nat.reduceMul, Nat.reduceSub, Nat.reduceLeDiff, Int.reduceAdd, Int.reduceSub, Int.reduceMul, Int.reduceLE, Int.reduceLT, Int.reduceEq, Int.reduceNeg, Int.reduceToNat, Int.reduceTDiv, Int.reduceTMod, reduceIte, Nat.reduceEqDiff, Nat.reducePow, Int.reducePow, g0, g1, g6, g7, h2]
    · have e1 : acc.length = 1024 := by have e0 := toProp h2; omega
      have hsc : scanF s bl = (7, acc, ((decF (s.drop off) (locB bl off)).map Prod.fst).getD ent0) := by rw [i4, scanN_7 k hlt e1 rfl]; simp only [List.append_nil]
      rw [decAllV_of hsc (show (7 : Int) ≠ 0 by decide)]
    have e1 : acc.length ≠ 1024 := by have e0 := toNot h2; omega
    simp only [go_sem, Nat.reduceBEq, Nat.reduceAdd, Nat.reduceMul, Nat.reduceSub, Nat.reduceLeDiff, Int.reduceAdd, Int.reduceSub, Int.reduceMul, Int.reduceLE, Int.reduceLT, Int.reduceEq, Int.reduceNeg, Int.reduceToNat, Int.reduceTDiv, Int.reduceTMod, reduceIte, Nat.reduceEqDiff, Nat.reducePow, Int.reducePow, g0, g1, g6, g7, wQ]
    (first | with_reducible refine condW_not ?_ ?_ | refine condW_split ?_ ?_) <;> intro h3 <;> simp only [go_sem, Nat.reduceBEq, Nat.reduceAdd, Nat.reduceMul, Nat.reduceSub, Nat.reduceLeDiff, Int.reduceAdd, Int.reduceSub, Int.reduceMul, Int.reduceLE, Int.reduceLT, Int.reduceEq, Int.reduceNeg, Int.reduceToNat, Int.reduceTDiv, Int.reduceTMod, reduceIte, Nat.reduceEqDiff, Nat.reducePow, Int.reducePow, g0, g1, g6, g7, wQ, h3]
    · have hB : hasB bl off = false := by unfold hasB; exact decide_eq_false (by have := toProp h3; omega)
      have hsc : scanF s bl = (2, acc, ((decF (s.drop off) (locB bl off)).map Prod.fst).getD ent0) := by rw [i4, scanN_2 k hlt e1 hB rfl]; simp only [List.append_nil]
      rw [decAllV_of hsc (show (2 : Int) ≠ 0 by decide)]
    have hq : off / 2048 < bl.length := by have := toNot h3; omega
    have hB : hasB bl off = true := by unfold hasB; exact decide_eq_true hq
    have hbl : bl[off / 2048] = locB bl off := by simp [locB, List.getD_eq_getElem?_getD, hq]
    obtain ⟨f, sz, er0, pd, hcase⟩ := p_rfdec2 (G := G) (s.drop off) (locB bl off) (by simp; omega)
    refine ⟨⟨by omega, by omega⟩, ⟨by omega, by omega⟩, ?_⟩
    simp only [hbl]
    refine callKT_pf (pd) (by first | (simp only [go_sem, Nat.reduceBEq, Nat.reduceAdd, Nat.reduceMul, Nat.reduceSub, Nat.reduceLeDiff, Int.reduceAdd, Int.reduceSub, Int.reduceMul, Int.reduceLE, Int.reduceLT, Int.reduceEq, Int.reduceNeg, Int.reduceToNat, Int.reduceTDiv, Int.reduceTMod, reduceIte, Nat.reduceEqDiff, Nat.reducePow, Int.reducePow]; done) | (simp only [go_sem, Nat.reduceBEq, Nat.reduceAdd, Nat.reduceMul, Nat.reduceSub, Nat.reduceLeDiff, Int.reduceAdd, Int.reduceSub, Int.reduceMul, Int.reduceLE, Int.reduceLT, Int.reduceEq, Int.reduceNeg, Int.reduceToNat, Int.reduceTDiv, Int.reduceTMod, reduceIte, Nat.reduceEqDiff, Nat.reducePow, Int.reducePow]; rfl) | rfl) ?_; simp only [go_sem, Nat.reduceBEq, Nat.reduceAdd, Nat.reduceMul, Nat.reduceSub, Nat.reduceLeDiff, Int.reduceAdd, Int.reduceSub, Int.reduceMul, Int.reduceLE, Int.reduceLT, Int.reduceEq, Int.reduceNeg, Int.reduceToNat, Int.reduceTDiv, Int.reduceTMod, reduceIte, Nat.reduceEqDiff, Nat.reducePow, Int.reducePow, g0, g1, g6, g7, wQ]
    refine ⟨by kernel_rfl, ?_⟩
    rcases hcase with ⟨d1, rfl, rfl, rfl⟩ | ⟨d1, rfl⟩
    · simp only [go_sem, Nat.reduceBEq, Nat.reduceAdd, Nat.reduceMul, Nat.reduceSub, Nat.reduceLeDiff, Int.reduceAdd, Int.reduceSub, Int.reduceMul, Int.reduceLE, Int.reduceLT, Int.reduceEq, Int.reduceNeg, Int.reduceToNat, Int.reduceTDiv, Int.reduceTMod, reduceIte, Nat.reduceEqDiff, Nat.reducePow, Int.reducePow, g0, g1, g6, g7, wQ]
      have hsc : scanF s bl = (10, acc, ent0) := by rw [i4, scanN_10 k hlt e1 hB d1]; simp only [List.append_nil]
      rw [decAllV_of hsc (show (10 : Int) ≠ 0 by decide)]
    · have hz := decF_size d1
      simp only [List.length_drop] at hz
      simp only [go_sem, Nat.reduceBEq, Nat.reduceAdd, Nat.reduceMul, Nat.reduceSub, Nat.reduceLeDiff, Int.reduceAdd, Int.reduceSub, Int.reduceMul, Int.reduceLE, Int.reduceLT, Int.reduceEq, Int.reduceNeg, Int.reduceToNat, Int.reduceTDiv, Int.reduceTMod, reduceIte, Nat.reduceEqDiff, Nat.reducePow, Int.reducePow, g0, g1, g6, g7, wQ]
      refine ⟨⟨by simp [szOk, entEl], by omega⟩, (k, off + sz, acc ++ [f]), ⟨by show off + sz ≤ _; omega, by show s.length + 1 ≤ k + (off + sz); omega, by simp only [List.length_append, List.length_cons, List.length_nil]; omega, ?_⟩, by show s.length - (off + sz) < _; omega, ⟨[HO.box ((entEl f).map AV.d)], ?_⟩, ?_, ?_⟩
      · rw [i4, scanN_go k hlt e1 hB d1]
        simp only [List.length_append, List.length_cons, List.length_nil, List.append_assoc, List.cons_append, List.nil_append]
      · simp only [List.length_append, List.length_cons, List.length_nil]
        rfl
      · simp only [List.map_append, List.map_cons, List.map_nil]
        rfl
      · rw [wrap_i64 (by omega) (by omega)]
        rfl
  · have hsc : scanF s bl = (0, acc, ent0) := by
      have := toNot h1
      rw [i4, scanN_end k (by omega)]; simp only [List.append_nil, List.nil_append]
    rw [decAllV, hsc, if_pos rfl]
end Go.Proofs.YtjmldlknegbimaaGreatDoor.Sx
