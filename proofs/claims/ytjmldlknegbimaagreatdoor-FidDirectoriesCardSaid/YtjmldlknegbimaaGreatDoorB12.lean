/- Texts as characters: charset.Characters, the reference's Characters. -/
import Derived.Test.YtjmldlknegbimaaGreatDoorX1
import Derived.Test.YtjmldlknegbimaaGreatDoorB1
set_option linter.unusedVariables false
set_option linter.unusedSimpArgs false
namespace Go.Proofs.YtjmldlknegbimaaGreatDoor.Sx
open Go Go.RowKit
variable {G : Gl}
@[go_sem] theorem ty_mz37 (H : List HO) (c : AV) : mkZ Tryz.prog H 37 c = mkZS 1 8 H c := mkZ_eq ty_tk37 ty_sz3 ty_by3 ty_zc3 H c
theorem chr1_len {s : List UInt8} {p : Nat × Nat} (h : chr1 s = some p) : 1 ≤ p.2 ∧ p.2 ≤ s.length ∧ p.1 ≤ 65533 := by
  rcases s with _ | ⟨b0, _ | ⟨b1, _ | ⟨b2, r⟩⟩⟩
  · simp [chr1] at h
  all_goals (have q0 := b0.toNat_lt)
  all_goals (simp only [chr1] at h)
  all_goals (repeat' split at h)
  all_goals first | contradiction | skip
  all_goals (simp only [Option.some.injEq] at h; subst h; simp only [List.length_cons]; omega)
def charsP (s : List UInt8) : Option (List Nat) :=
  if hs : s = [] then some []
  else if hp : chr1 s = none then none
  else ((charsP (s.drop ((chr1 s).getD (0, 1)).2)).map (((chr1 s).getD (0, 1)).1 :: ·))
termination_by s.length
decreasing_by
  cases h : chr1 s with
  | none => exact absurd h hp
  | some p =>
    have := chr1_len h
    simp only [h, Option.getD_some, List.length_drop]
    have : s.length ≠ 0 := fun h => hs (List.length_eq_zero_iff.1 h)
    omega
theorem charsP_nil : charsP [] = some [] := by rw [charsP]; simp
theorem charsP_none {s : List UInt8} (hs : s ≠ []) (h : chr1 s = none) : charsP s = none := by rw [charsP, dif_neg hs, dif_pos h]
theorem charsP_some {s : List UInt8} {p : Nat × Nat} (hs : s ≠ []) (h : chr1 s = some p) : charsP s = (charsP (s.drop p.2)).map (p.1 :: ·) := by rw [charsP, dif_neg hs, dif_neg (by rw [h]; simp), h]; rfl
def charV (s : List UInt8) : DV :=
  if decide (65536 < (s.length : Int)) = true then .tup [.sl .any [], .int .i64 7]
  else match charsP s with
    | none => .tup [.sl .any [], .int .i64 3]
    | some l => .tup [.sl .any (l.map fun (n : Nat) => intEl n), .int .i64 0]
theorem p_char (n : Int) : PF Tryz.prog G 107 [.int .i64 n] (.bool (charB n)) := by
  refine PF.of_body mo Tryz.func107 rfl (by kernel_rfl) (by kernel_rfl) (by simp [Tryz.ntmps107]) ?_; simp only [go_sem, Nat.reduceBEq, Nat.reduceAdd, Nat.reduceMul, Nat.reduceSub, Nat.reduceLeDiff, Int.reduceAdd, Int.reduceSub, Int.reduceMul, Int.reduceLE, Int.reduceLT, Int.reduceEq, Int.reduceNeg, Int.reduceToNat, Int.reduceTDiv, Int.reduceTMod, reduceIte, Nat.reduceEqDiff, Nat.reducePow, Int.reducePow, Tryz.results107]
  (first | with_reducible refine gO_not ?_ ?_ | with_reducible refine gT_not ?_ ?_ | refine gO_split ?_ ?_ | refine gT_split ?_ ?_) <;> intro h1 <;> simp only [go_sem, Nat.reduceBEq, Nat.reduceAdd, Nat.reduceMul, Nat.reduceSub, Nat.reduceLeDiff, Int.reduceAdd, Int.reduceSub, Int.reduceMul, Int.reduceLE, Int.reduceLT, Int.reduceEq, Int.reduceNeg, Int.reduceToNat, Int.reduceTDiv, Int.reduceTMod, reduceIte, Nat.reduceEqDiff, Nat.reducePow, Int.reducePow, h1]
  · (first | with_reducible refine gO_not ?_ ?_ | with_reducible refine gT_not ?_ ?_ | refine gO_split ?_ ?_ | refine gT_split ?_ ?_) <;> intro h2 <;> simp only [go_sem, Nat.reduceBEq, Nat.reduceAdd, Nat.reduceMul, Nat.reduceSub, Nat.reduceLeDiff, Int.reduceAdd, Int.reduceSub, Int.reduceMul, Int.reduceLE, Int.reduceLT, Int.reduceEq, Int.reduceNeg, Int.reduceToNat, Int.reduceTDiv, Int.reduceTMod, reduceIte, Nat.reduceEqDiff, Nat.reducePow, Int.reducePow, h2]
    · (first | with_reducible refine gO_not ?_ ?_ | with_reducible refine gT_not ?_ ?_ | refine gO_split ?_ ?_ | refine gT_split ?_ ?_) <;> intro h3 <;> simp only [go_sem, Nat.reduceBEq, Nat.reduceAdd, Nat.reduceMul, Nat.reduceSub, Nat.reduceLeDiff, Int.reduceAdd, Int.reduceSub, Int.reduceMul, Int.reduceLE, Int.reduceLT, Int.reduceEq, Int.reduceNeg, Int.reduceToNat, Int.reduceTDiv, Int.reduceTMod, reduceIte, Nat.reduceEqDiff, Nat.reducePow, Int.reducePow, h3]
      · simp [charB, h1, h2, h3]
      · simp [charB, h1, h2, h3]
    · simp [charB, h2]
  · simp [charB, h1]
theorem p_rchar (n : Int) : PF Tryz.prog G 108 [.int .i64 n] (.bool (charB n)) := by
  refine PF.of_body mo Tryz.func108 rfl (by kernel_rfl) (by kernel_rfl) (by simp [Tryz.ntmps108]) ?_; simp only [go_sem, Nat.reduceBEq, Nat.reduceAdd, Nat.reduceMul, Nat.reduceSub, Nat.reduceLeDiff, Int.reduceAdd, Int.reduceSub, Int.reduceMul, Int.reduceLE, Int.reduceLT, Int.reduceEq, Int.reduceNeg, Int.reduceToNat, Int.reduceTDiv, Int.reduceTMod, reduceIte, Nat.reduceEqDiff, Nat.reducePow, Int.reducePow, Tryz.results108]
  (first | with_reducible refine gO_not ?_ ?_ | with_reducible refine gT_not ?_ ?_ | refine gO_split ?_ ?_ | refine gT_split ?_ ?_) <;> intro h1 <;> simp only [go_sem, Nat.reduceBEq, Nat.reduceAdd, Nat.reduceMul, Nat.reduceSub, Nat.reduceLeDiff, Int.reduceAdd, Int.reduceSub, Int.reduceMul, Int.reduceLE, Int.reduceLT, Int.reduceEq, Int.reduceNeg, Int.reduceToNat, Int.reduceTDiv, Int.reduceTMod, reduceIte, Nat.reduceEqDiff, Nat.reducePow, Int.reducePow, h1]
  · (first | with_reducible refine gO_not ?_ ?_ | with_reducible refine gT_not ?_ ?_ | refine gO_split ?_ ?_ | refine gT_split ?_ ?_) <;> intro h2 <;> simp only [go_sem, Nat.reduceBEq, Nat.reduceAdd, Nat.reduceMul, Nat.reduceSub, Nat.reduceLeDiff, Int.reduceAdd, Int.reduceSub, Int.reduceMul, Int.reduceLE, Int.reduceLT, Int.reduceEq, Int.reduceNeg, Int.reduceToNat, Int.reduceTDiv, Int.reduceTMod, reduceIte, Nat.reduceEqDiff, Nat.reducePow, Int.reducePow, h2]
    · (first | with_reducible refine gO_not ?_ ?_ | with_reducible refine gT_not ?_ ?_ | refine gO_split ?_ ?_ | refine gT_split ?_ ?_) <;> intro h3 <;> simp only [go_sem, Nat.reduceBEq, Nat.reduceAdd, Nat.reduceMul, Nat.reduceSub, Nat.reduceLeDiff, Int.reduceAdd, Int.reduceSub, Int.reduceMul, Int.reduceLE, Int.reduceLT, Int.reduceEq, Int.reduceNeg, Int.reduceToNat, Int.reduceTDiv, Int.reduceTMod, reduceIte, Nat.reduceEqDiff, Nat.reducePow, Int.reducePow, h3]
      · simp [charB, h1, h2, h3]
      · simp [charB, h1, h2, h3]
    · simp [charB, h2]
  · simp [charB, h1]
theorem decP_le (s : List UInt8) (hs : s ≠ []) : (decP s).1 ≤ 1114111 ∧ 1 ≤ (decP s).2 ∧ (decP s).2 ≤ s.length := by
  rw [decP_eq s hs]
  have h0 : s.length ≠ 0 := fun h => hs (List.length_eq_zero_iff.1 h)
  have := (s.getD 0 0).toNat_lt
  unfold decN
  repeat' split
  all_goals (simp only []; omega)
set_option maxRecDepth 4000 in
theorem p_chars (s : List UInt8) : PF Tryz.prog GT 80 [.str s] (charV s) := by
  refine PF.of_body mo Tryz.func80 rfl (by kernel_rfl) (by kernel_rfl) (by simp [Tryz.ntmps80]) ?_; simp only [go_sem, Nat.reduceBEq, Nat.reduceAdd, Nat.reduceMul, Nat.reduceSub, Nat.reduceLeDiff, Int.reduceAdd, Int.reduceSub, Int.reduceMul, Int.reduceLE, Int.reduceLT, Int.reduceEq, Int.reduceNeg, Int.reduceToNat, Int.reduceTDiv, Int.reduceTMod, reduceIte, Nat.reduceEqDiff, Nat.reducePow, Int.reducePow, Tryz.results80]
  (first | with_reducible refine condW_not ?_ ?_ | refine condW_split ?_ ?_) <;> intro h1 <;> simp only [go_sem, Nat.reduceBEq, Nat.reduceAdd, Nat.reduceMul, Nat.reduceSub, Nat.reduceLeDiff, Int.reduceAdd, Int.reduceSub, Int.reduceMul, Int.reduceLE, Int.reduceLT, Int.reduceEq, Int.reduceNeg, Int.reduceToNat, Int.reduceTDiv, Int.reduceTMod, reduceIte, Nat.reduceEqDiff, Nat.reducePow, Int.reducePow, h1]
  · rw [charV, if_pos h1]
  · have hl := toNot h1
    refine ⟨⟨by omega, by omega⟩, ?_⟩
    refine wpc_loop (List Nat × List UInt8) (fun q => [(0, .d (.str q.2)), (4, .tsl 0 (q.1.map fun (n : Nat) => intEl n))]) (fun q => [.tok 1 q.1.length])
      (fun q => q.1.length + q.2.length ≤ 65536 ∧ charsP s = (charsP q.2).map (q.1 ++ ·)) (fun q => q.2.length) ([], s)
      (.refl _ _) (fun q hq => ⟨Nat.zero_le _, rfl, rfl⟩) ⟨by simp; omega, by simp⟩ rfl ?_ ?_
    · simp only [go_sem, Nat.reduceBEq, Nat.reduceAdd, Nat.reduceMul, Nat.reduceSub, Nat.reduceLeDiff, Int.reduceAdd, Int.reduceSub, Int.reduceMul, Int.reduceLE, Int.reduceLT, Int.reduceEq, Int.reduceNeg, Int.reduceToNat, Int.reduceTDiv, Int.reduceTMod, reduceIte, Nat.reduceEqDiff, Nat.reducePow, Int.reducePow]
    rintro ⟨acc, r⟩ e ⟨i1, i3⟩ ⟨g0, g4, _⟩
    simp only at i1 i3 g0 g4
    simp only [go_sem, Nat.reduceBEq, Nat.reduceAdd, Nat.reduceMul, Nat.reduceSub, Nat.reduceLeDiff, Int.reduceAdd, Int.reduceSub, Int.reduceMul, Int.reduceLE, Int.reduceLT, Int.reduceEq, Int.reduceNeg, Int.reduceToNat, Int.reduceTDiv, Int.reduceTMod, reduceIte, Nat.reduceEqDiff, Nat.reducePow, Int.reducePow, g0, g4]
    (first | with_reducible refine condW_not ?_ ?_ | refine condW_split ?_ ?_) <;> intro h2 <;> simp only [go_sem, Nat.reduceBEq, Nat.reduceAdd, Nat.reduceMul, Nat.reduceSub, Nat.reduceLeDiff, Int.reduceAdd, Int.reduceSub, Int.reduceMul, Int.reduceLE, Int.reduceLT, Int.reduceEq, Int.reduceNeg, Int.reduceToNat, Int.reduceTDiv, Int.reduceTMod, reduceIte, Nat.reduceEqDiff, Nat.reducePow, Int.reducePow, g0, g4, h2]
    · have hr : r ≠ [] := by rintro rfl; simp at h2
      have hc := dec_chr r hr
      obtain ⟨d1, d2, d3⟩ := decP_le r hr
      have ew : IntKind.i64.wrap ((decP r).1 : Int) = (decP r).1 := wrap_i64 (by omega) (by omega)
      refine callK_pf (p_decode r) (by first | (simp only [go_sem, Nat.reduceBEq, Nat.reduceAdd, Nat.reduceMul, Nat.reduceSub, Nat.reduceLeDiff, Int.reduceAdd, Int.reduceSub, Int.reduceMul, Int.reduceLE, Int.reduceLT, Int.reduceEq, Int.reduceNeg, Int.reduceToNat, Int.reduceTDiv, Int.reduceTMod, reduceIte, Nat.reduceEqDiff, Nat.reducePow, Int.reducePow]; done) | (simp only [go_sem, Nat.reduceBEq, Nat.reduceAdd, Nat.reduceMul, Nat.reduceSub, Nat.reduceLeDiff, Int.reduceAdd, Int.reduceSub, Int.reduceMul, Int.reduceLE, Int.reduceLT, Int.reduceEq, Int.reduceNeg, Int.reduceToNat, Int.reduceTDiv, Int.reduceTMod, reduceIte, Nat.reduceEqDiff, Nat.reducePow, Int.reducePow]; rfl) | rfl) ?_; simp only [go_sem, Nat.reduceBEq, Nat.reduceAdd, Nat.reduceMul, Nat.reduceSub, Nat.reduceLeDiff, Int.reduceAdd, Int.reduceSub, Int.reduceMul, Int.reduceLE, Int.reduceLT, Int.reduceEq, Int.reduceNeg, Int.reduceToNat, Int.reduceTDiv, Int.reduceTMod, reduceIte, Nat.reduceEqDiff, Nat.reducePow, Int.reducePow, g0, g4, ew]
      refine callK_pf (p_char (decP r).1) (by first | (simp only [go_sem, Nat.reduceBEq, Nat.reduceAdd, Nat.reduceMul, Nat.reduceSub, Nat.reduceLeDiff, Int.reduceAdd, Int.reduceSub, Int.reduceMul, Int.reduceLE, Int.reduceLT, Int.reduceEq, Int.reduceNeg, Int.reduceToNat, Int.reduceTDiv, Int.reduceTMod, reduceIte, Nat.reduceEqDiff, Nat.reducePow, Int.reducePow]; done) | (simp only [go_sem, Nat.reduceBEq, Nat.reduceAdd, Nat.reduceMul, Nat.reduceSub, Nat.reduceLeDiff, Int.reduceAdd, Int.reduceSub, Int.reduceMul, Int.reduceLE, Int.reduceLT, Int.reduceEq, Int.reduceNeg, Int.reduceToNat, Int.reduceTDiv, Int.reduceTMod, reduceIte, Nat.reduceEqDiff, Nat.reducePow, Int.reducePow]; rfl) | rfl) ?_; simp only [go_sem, Nat.reduceBEq, Nat.reduceAdd, Nat.reduceMul, Nat.reduceSub, Nat.reduceLeDiff, Int.reduceAdd, Int.reduceSub, Int.reduceMul, Int.reduceLE, Int.reduceLT, Int.reduceEq, Int.reduceNeg, Int.reduceToNat, Int.reduceTDiv, Int.reduceTMod, reduceIte, Nat.reduceEqDiff, Nat.reducePow, Int.reducePow, g0, g4, ew]
      have bad : ¬ (charB ((decP r).1 : Int) = true ∧ ¬ ((decP r).1 = 65533 ∧ (decP r).2 = 1)) → charV s = .tup [.sl .any [], .int .i64 3] := fun hb => by
        rw [if_neg hb] at hc
        rw [charV, if_neg (by rw [h1]; decide), i3, charsP_none hr hc]; rfl
      have good : (charB ((decP r).1 : Int) = true ∧ ¬ ((decP r).1 = 65533 ∧ (decP r).2 = 1)) → charsP s = (charsP (r.drop (decP r).2)).map ((acc ++ [(decP r).1]) ++ ·) := fun hg => by
        rw [if_pos hg] at hc
        rw [i3, charsP_some hr hc]
        cases charsP (r.drop (decP r).2) <;> simp
      (first | with_reducible refine gO_not ?_ ?_ | with_reducible refine gT_not ?_ ?_ | refine gO_split ?_ ?_ | refine gT_split ?_ ?_) <;> intro c1 <;> simp only [go_sem, Nat.reduceBEq, Nat.reduceAdd, Nat.reduceMul, Nat.reduceSub, Nat.reduceLeDiff, Int.reduceAdd, Int.reduceSub, Int.reduceMul, Int.reduceLE, Int.reduceLT, Int.reduceEq, Int.reduceNeg, Int.reduceToNat, Int.reduceTDiv, Int.reduceTMod, reduceIte, Nat.reduceEqDiff, Nat.reducePow, Int.reducePow, g0, g4, ew, c1]
      · (first | with_reducible refine gO_not ?_ ?_ | with_reducible refine gT_not ?_ ?_ | refine gO_split ?_ ?_ | refine gT_split ?_ ?_) <;> intro c2 <;> simp only [go_sem, Nat.reduceBEq, Nat.reduceAdd, Nat.reduceMul, Nat.reduceSub, Nat.reduceLeDiff, Int.reduceAdd, Int.reduceSub, Int.reduceMul, Int.reduceLE, Int.reduceLT, Int.reduceEq, Int.reduceNeg, Int.reduceToNat, Int.reduceTDiv, Int.reduceTMod, reduceIte, Nat.reduceEqDiff, Nat.reducePow, Int.reducePow, g0, g4, ew, c2]
        · (first | with_reducible refine condW_not ?_ ?_ | refine condW_split ?_ ?_) <;> intro c3 <;> simp only [go_sem, Nat.reduceBEq, Nat.reduceAdd, Nat.reduceMul, Nat.reduceSub, Nat.reduceLeDiff, Int.reduceAdd, Int.reduceSub, Int.reduceMul, Int.reduceLE, Int.reduceLT, Int.reduceEq, Int.reduceNeg, Int.reduceToNat, Int.reduceTDiv, Int.reduceTMod, reduceIte, Nat.reduceEqDiff, Nat.reducePow, Int.reducePow, g0, g4, ew, c3]
          · rw [bad (fun h => h.2 ⟨by have := toProp c2; omega, by have := toProp c3; omega⟩)]
          · refine ⟨⟨by simp [szOk, intEl], by omega⟩, ⟨by omega, by omega⟩, (acc ++ [(decP r).1], r.drop (decP r).2), ⟨by simp; omega, good ⟨c1, fun h => toNot c3 (by omega)⟩⟩, by simp; omega, ⟨[], by simp⟩, rfl, by simp [intEl]⟩
        · refine ⟨⟨by simp [szOk, intEl], by omega⟩, ⟨by omega, by omega⟩, (acc ++ [(decP r).1], r.drop (decP r).2), ⟨by simp; omega, good ⟨c1, fun h => toNot c2 (by omega)⟩⟩, by simp; omega, ⟨[], by simp⟩, rfl, by simp [intEl]⟩
      · rw [bad (fun h => by rw [c1] at h; simp at h)]
    · have hr : r = [] := by have := toNot h2; exact List.length_eq_zero_iff.1 (by omega)
      subst hr
      rw [charsP_nil] at i3
      rw [charV, if_neg (by rw [h1]; decide), i3]
      simp
/-! The reference's Characters -/
def encC (n : Int) : List UInt8 :=
  let b (k : Int) : UInt8 := UInt8.ofNat (IntKind.u8.wrap k).toNat
  if n < 128 then [b n] else if n < 2048 then [b (192 + n.tdiv 64), b (128 + n.tmod 64)] else [b (224 + n.tdiv 4096), b (128 + (n.tdiv 64).tmod 64), b (128 + n.tmod 64)]
theorem cvBy_sl (H : List HO) (st : St) (es : List (List DV)) : cvBy H (.d (.sl st es)) = match bytesOf es with | some l => some (.d (.str l), H) | none => none := (rfl)
theorem bytesOf_nil : bytesOf [] = some [] := (rfl)
theorem bytesOf_int (m : Int) (r : List (List DV)) : bytesOf ([.int .u8 m] :: r) = match bytesOf r with | some l => some (UInt8.ofNat m.toNat :: l) | none => none := (rfl)
theorem p_rencC (n : Int) (h0 : 0 ≤ n) (h1 : n ≤ 65533) : PF Tryz.prog G 109 [.int .i64 n] (.str (encC n)) := by
  have n1 : IntKind.i64.wrap (n.tdiv 64) = n.tdiv 64 := wrap_i64 (by rw [Int.tdiv_eq_ediv_of_nonneg h0]; omega) (by rw [Int.tdiv_eq_ediv_of_nonneg h0]; omega)
  have n2 : IntKind.i64.wrap (n.tdiv 4096) = n.tdiv 4096 := wrap_i64 (by rw [Int.tdiv_eq_ediv_of_nonneg h0]; omega) (by rw [Int.tdiv_eq_ediv_of_nonneg h0]; omega)
  have n3 : IntKind.i64.wrap (192 + n.tdiv 64) = 192 + n.tdiv 64 := wrap_i64 (by rw [Int.tdiv_eq_ediv_of_nonneg h0]; omega) (by rw [Int.tdiv_eq_ediv_of_nonneg h0]; omega)
  have n4 : IntKind.i64.wrap (224 + n.tdiv 4096) = 224 + n.tdiv 4096 := wrap_i64 (by rw [Int.tdiv_eq_ediv_of_nonneg h0]; omega) (by rw [Int.tdiv_eq_ediv_of_nonneg h0]; omega)
  have n5 : IntKind.i64.wrap (128 + n.tmod 64) = 128 + n.tmod 64 := wrap_i64 (by rw [Int.tmod_eq_emod_of_nonneg h0]; omega) (by rw [Int.tmod_eq_emod_of_nonneg h0]; omega)
  have n6 : IntKind.i64.wrap (128 + (n.tdiv 64).tmod 64) = 128 + (n.tdiv 64).tmod 64 := by
    rw [Int.tdiv_eq_ediv_of_nonneg h0, Int.tmod_eq_emod_of_nonneg (by omega)]
    exact wrap_i64 (by omega) (by omega)
  refine PF.of_body mo Tryz.func109 rfl (by kernel_rfl) (by kernel_rfl) (by simp [Tryz.ntmps109]) ?_; simp only [go_sem, Nat.reduceBEq, Nat.reduceAdd, Nat.reduceMul, Nat.reduceSub, Nat.reduceLeDiff, Int.reduceAdd, Int.reduceSub, Int.reduceMul, Int.reduceLE, Int.reduceLT, Int.reduceEq, Int.reduceNeg, Int.reduceToNat, Int.reduceTDiv, Int.reduceTMod, reduceIte, Nat.reduceEqDiff, Nat.reducePow, Int.reducePow, Tryz.results109]
  (first | with_reducible refine condW_not ?_ ?_ | refine condW_split ?_ ?_) <;> intro h2 <;> simp only [go_sem, Nat.reduceBEq, Nat.reduceAdd, Nat.reduceMul, Nat.reduceSub, Nat.reduceLeDiff, Int.reduceAdd, Int.reduceSub, Int.reduceMul, Int.reduceLE, Int.reduceLT, Int.reduceEq, Int.reduceNeg, Int.reduceToNat, Int.reduceTDiv, Int.reduceTMod, reduceIte, Nat.reduceEqDiff, Nat.reducePow, Int.reducePow, n1, n2, n3, n4, n5, n6, cvBy_sl, bytesOf_int, bytesOf_nil, h2]
  · rw [encC, if_pos (toProp h2)]
  · (first | with_reducible refine condW_not ?_ ?_ | refine condW_split ?_ ?_) <;> intro h3 <;> simp only [go_sem, Nat.reduceBEq, Nat.reduceAdd, Nat.reduceMul, Nat.reduceSub, Nat.reduceLeDiff, Int.reduceAdd, Int.reduceSub, Int.reduceMul, Int.reduceLE, Int.reduceLT, Int.reduceEq, Int.reduceNeg, Int.reduceToNat, Int.reduceTDiv, Int.reduceTMod, reduceIte, Nat.reduceEqDiff, Nat.reducePow, Int.reducePow, n1, n2, n3, n4, n5, n6, cvBy_sl, bytesOf_int, bytesOf_nil, h3]
    · rw [encC, if_neg (toNot h2), if_pos (toProp h3)]
    · rw [encC, if_neg (toNot h2), if_neg (toNot h3)]
end Go.Proofs.YtjmldlknegbimaaGreatDoor.Sx
