/- The reference of chapter 35 and 32: round, character, Utf8. -/
import Derived.Test.YtjmldlknegbimaaGreatDoorB27
set_option linter.unusedVariables false
set_option linter.unusedSimpArgs false
namespace Go.Proofs.YtjmldlknegbimaaGreatDoor.Sx
open Go Go.RowKit
variable {G : Gl}
theorem p_rround (n : Nat) (h : n < 2 ^ 40) : PF Tryz.prog G 25 [.int .i64 n] (.int .i64 (roundN n : Nat)) := by
  have e1 : IntKind.i64.wrap ((n : Int) + 3) = n + 3 := wrap_i64 (by omega) (by omega)
  have e2 : IntKind.i64.wrap (((n : Int) + 3).tdiv 4) = ((n + 3) / 4 : Nat) := by rw [Int.tdiv_eq_ediv_of_nonneg (by omega), wrap_i64 (by omega) (by omega)]; omega
  have e3 : IntKind.i64.wrap ((((n + 3) / 4 : Nat) : Int) * 4) = (roundN n : Nat) := by rw [wrap_i64 (by omega) (by omega), roundN]; omega
  refine PF.of_body mo Tryz.func25 rfl (by kernel_rfl) (by kernel_rfl) (by simp [Tryz.ntmps25]) ?_; simp only [go_sem, Nat.reduceBEq, Nat.reduceAdd, Nat.reduceMul, Nat.reduceSub, Nat.reduceLeDiff, Int.reduceAdd, Int.reduceSub, Int.reduceMul, Int.reduceLE, Int.reduceLT, Int.reduceEq, Int.reduceNeg, Int.reduceToNat, Int.reduceTDiv, Int.reduceTMod, reduceIte, Nat.reduceEqDiff, Nat.reducePow, Int.reducePow, Tryz.results25]
  rw [e1, e2, e3]
theorem p_rxchar (n : Int) : PF Tryz.prog G 76 [.int .i64 n] (.bool (charB n)) := by
  refine PF.of_body mo Tryz.func76 rfl (by kernel_rfl) (by kernel_rfl) (by simp [Tryz.ntmps76]) ?_; simp only [go_sem, Nat.reduceBEq, Nat.reduceAdd, Nat.reduceMul, Nat.reduceSub, Nat.reduceLeDiff, Int.reduceAdd, Int.reduceSub, Int.reduceMul, Int.reduceLE, Int.reduceLT, Int.reduceEq, Int.reduceNeg, Int.reduceToNat, Int.reduceTDiv, Int.reduceTMod, reduceIte, Nat.reduceEqDiff, Nat.reducePow, Int.reducePow, Tryz.results76]
  (first | with_reducible refine gO_not ?_ ?_ | with_reducible refine gT_not ?_ ?_ | refine gO_split ?_ ?_ | refine gT_split ?_ ?_) <;> intro h1 <;> simp only [go_sem, Nat.reduceBEq, Nat.reduceAdd, Nat.reduceMul, Nat.reduceSub, Nat.reduceLeDiff, Int.reduceAdd, Int.reduceSub, Int.reduceMul, Int.reduceLE, Int.reduceLT, Int.reduceEq, Int.reduceNeg, Int.reduceToNat, Int.reduceTDiv, Int.reduceTMod, reduceIte, Nat.reduceEqDiff, Nat.reducePow, Int.reducePow, h1]
  · (first | with_reducible refine gO_not ?_ ?_ | with_reducible refine gT_not ?_ ?_ | refine gO_split ?_ ?_ | refine gT_split ?_ ?_) <;> intro h2 <;> simp only [go_sem, Nat.reduceBEq, Nat.reduceAdd, Nat.reduceMul, Nat.reduceSub, Nat.reduceLeDiff, Int.reduceAdd, Int.reduceSub, Int.reduceMul, Int.reduceLE, Int.reduceLT, Int.reduceEq, Int.reduceNeg, Int.reduceToNat, Int.reduceTDiv, Int.reduceTMod, reduceIte, Nat.reduceEqDiff, Nat.reducePow, Int.reducePow, h2]
    · (first | with_reducible refine gO_not ?_ ?_ | with_reducible refine gT_not ?_ ?_ | refine gO_split ?_ ?_ | refine gT_split ?_ ?_) <;> intro h3 <;> simp only [go_sem, Nat.reduceBEq, Nat.reduceAdd, Nat.reduceMul, Nat.reduceSub, Nat.reduceLeDiff, Int.reduceAdd, Int.reduceSub, Int.reduceMul, Int.reduceLE, Int.reduceLT, Int.reduceEq, Int.reduceNeg, Int.reduceToNat, Int.reduceTDiv, Int.reduceTMod, reduceIte, Nat.reduceEqDiff, Nat.reducePow, Int.reducePow, h3]
      · simp [charB, h1, h2, h3]
      · simp [charB, h1, h2, h3]
    · simp [charB, h2]
  · simp [charB, h1]
def utfL (l : List Nat) : List UInt8 := (l.map fun c => encC (c : Nat)).flatten
theorem utfL_succ (l : List Nat) (i : Nat) (h : i < l.length) : utfL (l.take (i + 1)) = utfL (l.take i) ++ encC (l[i] : Nat) := by
  unfold utfL
  rw [List.take_succ_eq_append_getElem h, List.map_append, List.flatten_append, List.map_cons, List.map_nil, List.flatten_cons, List.flatten_nil, List.append_nil]
theorem utfL_len (l : List Nat) : (utfL l).length ≤ 3 * l.length := by
  induction l with
  | nil => simp [utfL]
  | cons c l ih =>
    have := encC_len (c : Nat)
    unfold utfL at *
    rw [List.map_cons, List.flatten_cons, List.length_append, List.length_cons]
    omega
theorem byteEl_w (k : Int) : byteEl (UInt8.ofNat (IntKind.u8.wrap k).toNat) = [.int .u8 (IntKind.u8.wrap k)] := by
  have h0 : 0 ≤ IntKind.u8.wrap k ∧ IntKind.u8.wrap k < 256 := by rw [IntKind.wrap_u8]; omega
  unfold byteEl
  have : ((UInt8.ofNat (IntKind.u8.wrap k).toNat).toNat : Int) = IntKind.u8.wrap k := by simp; omega
  rw [this]
set_option maxRecDepth 8000 in
theorem p_rutf8 (l : List Nat) (hl : l.length < 2 ^ 28) (hc : ∀ n ∈ l, n < 65536) : PF Tryz.prog G 77 [.sl .any (l.map fun (n : Nat) => intEl n)] (.str (utfL l)) := by
  refine PF.of_body mo Tryz.func77 rfl (by kernel_rfl) (by kernel_rfl) (by simp [Tryz.ntmps77]) ?_; simp only [go_sem, Nat.reduceBEq, Nat.reduceAdd, Nat.reduceMul, Nat.reduceSub, Nat.reduceLeDiff, Int.reduceAdd, Int.reduceSub, Int.reduceMul, Int.reduceLE, Int.reduceLT, Int.reduceEq, Int.reduceNeg, Int.reduceToNat, Int.reduceTDiv, Int.reduceTMod, reduceIte, Nat.reduceEqDiff, Nat.reducePow, Int.reducePow, Tryz.results77]
  refine wpc_loop Nat (fun i => [(0, .d (.sl .any (l.map fun (n : Nat) => intEl n))), (3, .tsl 0 ((utfL (l.take i)).map byteEl)), (4, .d (.int .i64 i))]) (fun i => [.tok 1 (utfL (l.take i)).length]) (fun i => i ≤ l.length) (fun i => l.length - i) 0
    (.step _ _ 3 .full [] 1 _ _ rfl (by decide) (.refl _ _)) (fun i hi => ⟨Nat.zero_le _, rfl, rfl⟩) (Nat.zero_le _) rfl ?_ ?_
  · simp only [go_sem, Nat.reduceBEq, Nat.reduceAdd, Nat.reduceMul, Nat.reduceSub, Nat.reduceLeDiff, Int.reduceAdd, Int.reduceSub, Int.reduceMul, Int.reduceLE, Int.reduceLT, Int.reduceEq, Int.reduceNeg, Int.reduceToNat, Int.reduceTDiv, Int.reduceTMod, reduceIte, Nat.reduceEqDiff, Nat.reducePow, Int.reducePow]
    exact ⟨rfl, rfl⟩
  intro i e hi ⟨g0, g3, g4, _⟩
  simp only [go_sem, Nat.reduceBEq, Nat.reduceAdd, Nat.reduceMul, Nat.reduceSub, Nat.reduceLeDiff, Int.reduceAdd, Int.reduceSub, Int.reduceMul, Int.reduceLE, Int.reduceLT, Int.reduceEq, Int.reduceNeg, Int.reduceToNat, Int.reduceTDiv, Int.reduceTMod, reduceIte, Nat.reduceEqDiff, Nat.reducePow, Int.reducePow, g0, g3, g4]
  (first | with_reducible refine condW_not ?_ ?_ | refine condW_split ?_ ?_) <;> intro h1 <;> simp only [go_sem, Nat.reduceBEq, Nat.reduceAdd, Nat.reduceMul, Nat.reduceSub, Nat.reduceLeDiff, Int.reduceAdd, Int.reduceSub, Int.reduceMul, Int.reduceLE, Int.reduceLT, Int.reduceEq, Int.reduceNeg, Int.reduceToNat, Int.reduceTDiv, Int.reduceTMod, reduceIte, Nat.reduceEqDiff, Nat.reducePow, Int.reducePow, g0, g3, g4, h1]
  · have hlt : i < l.length := by have := toProp h1; omega
    have hn := hc l[i] (by simp)
    obtain ⟨c, hcc⟩ : ∃ c, l[i] = c := ⟨_, rfl⟩
    have hs := utfL_succ l i hlt
    have hlen := utfL_len (l.take i)
    rw [List.length_take] at hlen
    rw [hcc] at hn hs
    obtain ⟨n, hnn⟩ : ∃ n : Int, (c : Int) = n := ⟨_, rfl⟩
    have h0 : 0 ≤ n := by omega
    have h65 : n < 65536 := by omega
    have n1 : IntKind.i64.wrap (n.tdiv 64) = n.tdiv 64 := wrap_i64 (by rw [Int.tdiv_eq_ediv_of_nonneg h0]; omega) (by rw [Int.tdiv_eq_ediv_of_nonneg h0]; omega)
    have n2 : IntKind.i64.wrap (n.tdiv 4096) = n.tdiv 4096 := wrap_i64 (by rw [Int.tdiv_eq_ediv_of_nonneg h0]; omega) (by rw [Int.tdiv_eq_ediv_of_nonneg h0]; omega)
    have n3 : IntKind.i64.wrap (192 + n.tdiv 64) = 192 + n.tdiv 64 := wrap_i64 (by rw [Int.tdiv_eq_ediv_of_nonneg h0]; omega) (by rw [Int.tdiv_eq_ediv_of_nonneg h0]; omega)
    have n4 : IntKind.i64.wrap (224 + n.tdiv 4096) = 224 + n.tdiv 4096 := wrap_i64 (by rw [Int.tdiv_eq_ediv_of_nonneg h0]; omega) (by rw [Int.tdiv_eq_ediv_of_nonneg h0]; omega)
    have n5 : IntKind.i64.wrap (128 + n.tmod 64) = 128 + n.tmod 64 := wrap_i64 (by rw [Int.tmod_eq_emod_of_nonneg h0]; omega) (by rw [Int.tmod_eq_emod_of_nonneg h0]; omega)
    have n6 : IntKind.i64.wrap (128 + (n.tdiv 64).tmod 64) = 128 + (n.tdiv 64).tmod 64 := by
      rw [Int.tdiv_eq_ediv_of_nonneg h0, Int.tmod_eq_emod_of_nonneg (by omega)]
      exact wrap_i64 (by omega) (by omega)
    have wI : IntKind.i64.wrap ((i : Int) + 1) = ((i + 1 : Nat) : Int) := by rw [wrap_i64 (by omega) (by omega)]; rfl
    rw [hnn] at hs
    refine ⟨⟨by omega, by omega⟩, ?_⟩
    simp only [go_sem, Nat.reduceBEq, Nat.reduceAdd, Nat.reduceMul, Nat.reduceSub, Nat.reduceLeDiff, Int.reduceAdd, Int.reduceSub, Int.reduceMul, Int.reduceLE, Int.reduceLT, Int.reduceEq, Int.reduceNeg, Int.reduceToNat, Int.reduceTDiv, Int.reduceTMod, reduceIte, Nat.reduceEqDiff, Nat.reducePow, Int.reducePow, g0, g3, g4, hcc, hnn, n1, n2, n3, n4, n5, n6, wI]
    (first | with_reducible refine condW_not ?_ ?_ | refine condW_split ?_ ?_) <;> intro h2 <;> simp only [go_sem, Nat.reduceBEq, Nat.reduceAdd, Nat.reduceMul, Nat.reduceSub, Nat.reduceLeDiff, Int.reduceAdd, Int.reduceSub, Int.reduceMul, Int.reduceLE, Int.reduceLT, Int.reduceEq, Int.reduceNeg, Int.reduceToNat, Int.reduceTDiv, Int.reduceTMod, reduceIte, Nat.reduceEqDiff, Nat.reducePow, Int.reducePow, g0, g3, g4, hcc, hnn, n1, n2, n3, n4, n5, n6, wI, h2]
    · have he : encC n = [UInt8.ofNat (IntKind.u8.wrap n).toNat] := by rw [encC, if_pos (toProp h2)]
      rw [he] at hs
      exact ⟨by omega, i + 1, hlt, by omega, ⟨[], by rw [hs, List.length_append]; rfl⟩, by rw [hs, List.map_append, List.map_cons, List.map_nil, byteEl_w], rfl⟩
    · (first | with_reducible refine condW_not ?_ ?_ | refine condW_split ?_ ?_) <;> intro h3 <;> simp only [go_sem, Nat.reduceBEq, Nat.reduceAdd, Nat.reduceMul, Nat.reduceSub, Nat.reduceLeDiff, Int.reduceAdd, Int.reduceSub, Int.reduceMul, Int.reduceLE, Int.reduceLT, Int.reduceEq, Int.reduceNeg, Int.reduceToNat, Int.reduceTDiv, Int.reduceTMod, reduceIte, Nat.reduceEqDiff, Nat.reducePow, Int.reducePow, g0, g3, g4, hcc, hnn, n1, n2, n3, n4, n5, n6, wI, h3]
      · have he : encC n = [UInt8.ofNat (IntKind.u8.wrap (192 + n.tdiv 64)).toNat, UInt8.ofNat (IntKind.u8.wrap (128 + n.tmod 64)).toNat] := by rw [encC, if_neg (toNot h2), if_pos (toProp h3)]
        rw [he] at hs
        exact ⟨by omega, i + 1, hlt, by omega, ⟨[], by rw [hs, List.length_append]; rfl⟩, by rw [hs, List.map_append, List.map_cons, List.map_cons, List.map_nil, byteEl_w, byteEl_w], rfl⟩
      · have he : encC n = [UInt8.ofNat (IntKind.u8.wrap (224 + n.tdiv 4096)).toNat, UInt8.ofNat (IntKind.u8.wrap (128 + (n.tdiv 64).tmod 64)).toNat, UInt8.ofNat (IntKind.u8.wrap (128 + n.tmod 64)).toNat] := by rw [encC, if_neg (toNot h2), if_neg (toNot h3)]
        rw [he] at hs
        exact ⟨by omega, i + 1, hlt, by omega, ⟨[], by rw [hs, List.length_append]; rfl⟩, by rw [hs, List.map_append, List.map_cons, List.map_cons, List.map_cons, List.map_nil, byteEl_w, byteEl_w, byteEl_w], rfl⟩
  · have : i = l.length := by have := toNot h1; omega
    subst this
    rw [List.take_length] at g3
    rw [List.take_length]
theorem textU_utf (s : List UInt8) (j : Nat) : textU s j = utfL ((List.range j).map (unitU s)) := by
  unfold textU utfL
  rw [List.map_map]
  simp only [Function.comp_def]
theorem unit_1 {s : List UInt8} {j : Nat} (hw : widthU s = 1) (h : 1 + 1 * j < s.length) : unitU s j = (s[1 + 1 * j]).toNat := by
  unfold unitU
  rw [hw, List.drop_eq_getElem_cons h]
  show 256 * 0 + (s[1 + 1 * j]).toNat = _
  omega
theorem unit_2 {s : List UInt8} {j : Nat} (hw : widthU s = 2) (h : 1 + 2 * j < s.length) (h2 : 1 + 2 * j + 1 < s.length) : unitU s j = 256 * (s[1 + 2 * j]).toNat + (s[1 + 2 * j + 1]).toNat := by
  unfold unitU
  rw [hw, List.drop_eq_getElem_cons h, List.drop_eq_getElem_cons h2]
  show 256 * (256 * 0 + (s[1 + 2 * j]).toNat) + (s[1 + 2 * j + 1]).toNat = _
  omega
theorem unit_lt {s : List UInt8} {j : Nat} (h : charB (unitU s j : Nat) = true) : unitU s j < 65536 := by
  simp only [charB, Bool.and_eq_true, decide_eq_true_eq] at h
  omega
theorem all_no {s : List UInt8} {n j : Nat} (hj : j < n) (h : charB (unitU s j : Nat) = false) : ¬ ((List.range n).all fun j => charB (unitU s j)) = true := by
  rw [range_all_no _ j n hj h]; decide
set_option maxRecDepth 8000 in
theorem p_rexpand (s : List UInt8) : PF Tryz.prog G 45 [.str s] (expV s) := by
  refine PF.of_body mo Tryz.func45 rfl (by kernel_rfl) (by kernel_rfl) (by simp [Tryz.ntmps45]) ?_; simp only [go_sem, Nat.reduceBEq, Nat.reduceAdd, Nat.reduceMul, Nat.reduceSub, Nat.reduceLeDiff, Int.reduceAdd, Int.reduceSub, Int.reduceMul, Int.reduceLE, Int.reduceLT, Int.reduceEq, Int.reduceNeg, Int.reduceToNat, Int.reduceTDiv, Int.reduceTMod, reduceIte, Nat.reduceEqDiff, Nat.reducePow, Int.reducePow, Tryz.results45]
  (first | with_reducible refine condW_not ?_ ?_ | refine condW_split ?_ ?_) <;> intro h1 <;> simp only [go_sem, Nat.reduceBEq, Nat.reduceAdd, Nat.reduceMul, Nat.reduceSub, Nat.reduceLeDiff, Int.reduceAdd, Int.reduceSub, Int.reduceMul, Int.reduceLE, Int.reduceLT, Int.reduceEq, Int.reduceNeg, Int.reduceToNat, Int.reduceTDiv, Int.reduceTMod, reduceIte, Nat.reduceEqDiff, Nat.reducePow, Int.reducePow, h1]
  · rw [expV, if_pos h1]
  have hl := toNot h1
  (first | with_reducible refine condW_not ?_ ?_ | refine condW_split ?_ ?_) <;> intro h2 <;> simp only [go_sem, Nat.reduceBEq, Nat.reduceAdd, Nat.reduceMul, Nat.reduceSub, Nat.reduceLeDiff, Int.reduceAdd, Int.reduceSub, Int.reduceMul, Int.reduceLE, Int.reduceLT, Int.reduceEq, Int.reduceNeg, Int.reduceToNat, Int.reduceTDiv, Int.reduceTMod, reduceIte, Nat.reduceEqDiff, Nat.reducePow, Int.reducePow, h2]
  · have : s = [] := by simpa using h2
    rw [expV, if_neg (by rw [h1]; decide), if_pos this]
  have hs : s ≠ [] := by simpa using h2
  have h0 : 0 < s.length := List.length_pos_iff.2 hs
  have hh := headU_eq s h0
  refine ⟨h0, h0, ?_⟩
  have wL : IntKind.i64.wrap ((s.length : Int) - 1) = (s.length : Int) - 1 := wrap_i64 (by omega) (by omega)
  have w1 : IntKind.i64.wrap 1 = 1 := by decide
  have w2 : IntKind.i64.wrap 2 = 2 := by decide
  by_cases e8 : headU s = 8
  · have hh8 : (s[0].toNat : Int) = 8 := by omega
    have hb : badU s = false := by unfold badU; rw [e8]; simp
    have hw : widthU s = 1 := by unfold widthU; rw [e8]; rfl
    have m1 : ((s.length : Int) - 1).tmod 1 = 0 := by simp
    simp only [go_sem, Nat.reduceBEq, Nat.reduceAdd, Nat.reduceMul, Nat.reduceSub, Nat.reduceLeDiff, Int.reduceAdd, Int.reduceSub, Int.reduceMul, Int.reduceLE, Int.reduceLT, Int.reduceEq, Int.reduceNeg, Int.reduceToNat, Int.reduceTDiv, Int.reduceTMod, reduceIte, Nat.reduceEqDiff, Nat.reducePow, Int.reducePow, hh8, wL, w1, m1, decide_true, Bool.not_true]
    obtain ⟨x1, x2, x3⟩ := expand_ok s 1 hw (by omega) hs hb
    have hx : expV s = if ((List.range (countU s)).all fun j => charB (unitU s j)) = true then .tup [.str (textU s (countU s)), .int .i64 0] else .tup [.str [], .int .i64 2] := by
      rw [expV, if_neg (by rw [h1]; decide), if_neg hs, if_neg (by rw [hb]; decide)]
    rw [hx]
    refine wpc_loop Nat (fun j => [(0, .d (.str s)), (4, .d (.int .i64 1)), (5, .tsl 0 (((List.range j).map (unitU s)).map fun (n : Nat) => intEl n)), (6, .d (.int .i64 (1 + 1 * j : Nat)))])
      (fun j => [.tok 1 j]) (fun j => j ≤ countU s ∧ ∀ k, k < j → charB (unitU s k) = true) (fun j => countU s - j) 0
      (.step _ _ 5 .full [] 1 _ _ rfl (by decide) (.refl _ _)) (fun j hj => ⟨Nat.zero_le _, by simp [ltAll, AV.lt], rfl⟩) ⟨Nat.zero_le _, fun k hk => absurd hk (Nat.not_lt_zero _)⟩ rfl ?_ ?_
    · simp only [go_sem, Nat.reduceBEq, Nat.reduceAdd, Nat.reduceMul, Nat.reduceSub, Nat.reduceLeDiff, Int.reduceAdd, Int.reduceSub, Int.reduceMul, Int.reduceLE, Int.reduceLT, Int.reduceEq, Int.reduceNeg, Int.reduceToNat, Int.reduceTDiv, Int.reduceTMod, reduceIte, Nat.reduceEqDiff, Nat.reducePow, Int.reducePow, hh8, wL, w1, m1, decide_true, Bool.not_true]
      exact ⟨rfl, rfl⟩
    intro j e ⟨hj, hc⟩ ⟨g0, g4, g5, g6, _⟩
    simp only [go_sem, Nat.reduceBEq, Nat.reduceAdd, Nat.reduceMul, Nat.reduceSub, Nat.reduceLeDiff, Int.reduceAdd, Int.reduceSub, Int.reduceMul, Int.reduceLE, Int.reduceLT, Int.reduceEq, Int.reduceNeg, Int.reduceToNat, Int.reduceTDiv, Int.reduceTMod, reduceIte, Nat.reduceEqDiff, Nat.reducePow, Int.reducePow, g0, g4, g5, g6]
    (first | with_reducible refine condW_not ?_ ?_ | refine condW_split ?_ ?_) <;> intro h5 <;> simp only [go_sem, Nat.reduceBEq, Nat.reduceAdd, Nat.reduceMul, Nat.reduceSub, Nat.reduceLeDiff, Int.reduceAdd, Int.reduceSub, Int.reduceMul, Int.reduceLE, Int.reduceLT, Int.reduceEq, Int.reduceNeg, Int.reduceToNat, Int.reduceTDiv, Int.reduceTMod, reduceIte, Nat.reduceEqDiff, Nat.reducePow, Int.reducePow, g0, g4, g5, g6, h5]
    · have hlt : j < countU s := by have := toProp h5; omega
      have hb1 : 1 + 1 * j < s.length := by omega
      refine ⟨⟨by omega, by omega⟩, ?_⟩
      have hu : ((s[1 + 1 * j]).toNat : Int) = (unitU s j : Nat) := by rw [unit_1 hw hb1]
      simp only [go_sem, Nat.reduceBEq, Nat.reduceAdd, Nat.reduceMul, Nat.reduceSub, Nat.reduceLeDiff, Int.reduceAdd, Int.reduceSub, Int.reduceMul, Int.reduceLE, Int.reduceLT, Int.reduceEq, Int.reduceNeg, Int.reduceToNat, Int.reduceTDiv, Int.reduceTMod, reduceIte, Nat.reduceEqDiff, Nat.reducePow, Int.reducePow, g0, g4, g5, g6, hu]
      refine callK_pf (p_rxchar (unitU s j : Nat)) (by first | (simp only [go_sem, Nat.reduceBEq, Nat.reduceAdd, Nat.reduceMul, Nat.reduceSub, Nat.reduceLeDiff, Int.reduceAdd, Int.reduceSub, Int.reduceMul, Int.reduceLE, Int.reduceLT, Int.reduceEq, Int.reduceNeg, Int.reduceToNat, Int.reduceTDiv, Int.reduceTMod, reduceIte, Nat.reduceEqDiff, Nat.reducePow, Int.reducePow]; done) | (simp only [go_sem, Nat.reduceBEq, Nat.reduceAdd, Nat.reduceMul, Nat.reduceSub, Nat.reduceLeDiff, Int.reduceAdd, Int.reduceSub, Int.reduceMul, Int.reduceLE, Int.reduceLT, Int.reduceEq, Int.reduceNeg, Int.reduceToNat, Int.reduceTDiv, Int.reduceTMod, reduceIte, Nat.reduceEqDiff, Nat.reducePow, Int.reducePow]; rfl) | rfl) ?_; simp only [go_sem, Nat.reduceBEq, Nat.reduceAdd, Nat.reduceMul, Nat.reduceSub, Nat.reduceLeDiff, Int.reduceAdd, Int.reduceSub, Int.reduceMul, Int.reduceLE, Int.reduceLT, Int.reduceEq, Int.reduceNeg, Int.reduceToNat, Int.reduceTDiv, Int.reduceTMod, reduceIte, Nat.reduceEqDiff, Nat.reducePow, Int.reducePow, g0, g4, g5, g6, hu]
      (first | with_reducible refine condW_not ?_ ?_ | refine condW_split ?_ ?_) <;> intro h6 <;> simp only [go_sem, Nat.reduceBEq, Nat.reduceAdd, Nat.reduceMul, Nat.reduceSub, Nat.reduceLeDiff, Int.reduceAdd, Int.reduceSub, Int.reduceMul, Int.reduceLE, Int.reduceLT, Int.reduceEq, Int.reduceNeg, Int.reduceToNat, Int.reduceTDiv, Int.reduceTMod, reduceIte, Nat.reduceEqDiff, Nat.reducePow, Int.reducePow, g0, g4, g5, g6, hu, h6]
      · rw [if_neg (all_no hlt h6)]
      · have hr : (List.range (j + 1)).map (unitU s) = (List.range j).map (unitU s) ++ [unitU s j] := by rw [List.range_succ, List.map_append]; rfl
        have wJ : IntKind.i64.wrap (((1 + 1 * j : Nat) : Int) + 1) = ((1 + 1 * (j + 1) : Nat) : Int) := by rw [wrap_i64 (by omega) (by omega)]; omega
        exact ⟨⟨by rw [List.length_range], by simp [szOk, intEl], by rw [List.length_range]; omega⟩, j + 1, ⟨by omega, fun k hk => by
          rcases Nat.lt_or_ge k j with h | h
          · exact hc k h
          · have : k = j := by omega
            subst this; exact h6⟩, by omega, ⟨[], by rw [List.length_range]⟩, by rw [hr, List.map_append]; rfl, by rw [wJ]⟩
    · have : j = countU s := by have := toNot h5; omega
      subst this
      have hall : ((List.range (countU s)).all fun j => charB (unitU s j)) = true := by
        rw [List.all_eq_true]
        intro k hk
        exact hc k (by simpa using hk)
      have pu := p_rutf8 (G := G) ((List.range (countU s)).map (unitU s)) (by simp; omega) (fun n hn => by
        obtain ⟨k, hk, rfl⟩ := List.mem_map.1 hn
        exact unit_lt (hc k (by simpa using hk)))
      rw [← textU_utf] at pu
      rw [if_pos hall]
      refine callK_pf (pu) (by first | (simp only [go_sem, Nat.reduceBEq, Nat.reduceAdd, Nat.reduceMul, Nat.reduceSub, Nat.reduceLeDiff, Int.reduceAdd, Int.reduceSub, Int.reduceMul, Int.reduceLE, Int.reduceLT, Int.reduceEq, Int.reduceNeg, Int.reduceToNat, Int.reduceTDiv, Int.reduceTMod, reduceIte, Nat.reduceEqDiff, Nat.reducePow, Int.reducePow]; done) | (simp only [go_sem, Nat.reduceBEq, Nat.reduceAdd, Nat.reduceMul, Nat.reduceSub, Nat.reduceLeDiff, Int.reduceAdd, Int.reduceSub, Int.reduceMul, Int.reduceLE, Int.reduceLT, Int.reduceEq, Int.reduceNeg, Int.reduceToNat, Int.reduceTDiv, Int.reduceTMod, reduceIte, Nat.reduceEqDiff, Nat.reducePow, Int.reducePow]; rfl) | rfl) ?_; simp only [go_sem, Nat.reduceBEq, Nat.reduceAdd, Nat.reduceMul, Nat.reduceSub, Nat.reduceLeDiff, Int.reduceAdd, Int.reduceSub, Int.reduceMul, Int.reduceLE, Int.reduceLT, Int.reduceEq, Int.reduceNeg, Int.reduceToNat, Int.reduceTDiv, Int.reduceTMod, reduceIte, Nat.reduceEqDiff, Nat.reducePow, Int.reducePow, g0, g4, g5, g6]
  by_cases e16 : headU s = 16
  · have hh16 : (s[0].toNat : Int) = 16 := by omega
    have hw : widthU s = 2 := by unfold widthU; rw [e16]; rfl
    by_cases hp : s.length % 2 = 0
    · have hb : badU s = true := by unfold badU; rw [e16]; simp [hp]
      have hx : expV s = .tup [.str [], .int .i64 3] := by rw [expV, if_neg (by rw [h1]; decide), if_neg hs, if_pos hb]
      have m2 : decide (((s.length : Int) - 1).tmod 2 = 0) = false := decide_eq_false (by rw [Int.tmod_eq_emod_of_nonneg (by omega)]; omega)
      rw [hx]
      simp only [go_sem, Nat.reduceBEq, Nat.reduceAdd, Nat.reduceMul, Nat.reduceSub, Nat.reduceLeDiff, Int.reduceAdd, Int.reduceSub, Int.reduceMul, Int.reduceLE, Int.reduceLT, Int.reduceEq, Int.reduceNeg, Int.reduceToNat, Int.reduceTDiv, Int.reduceTMod, reduceIte, Nat.reduceEqDiff, Nat.reducePow, Int.reducePow, hh16, wL, w2, m2, Bool.not_false]
      exact h0
    · have hb : badU s = false := by unfold badU; rw [e16]; simp; omega
      have m2 : decide (((s.length : Int) - 1).tmod 2 = 0) = true := decide_eq_true (by rw [Int.tmod_eq_emod_of_nonneg (by omega)]; omega)
      simp only [go_sem, Nat.reduceBEq, Nat.reduceAdd, Nat.reduceMul, Nat.reduceSub, Nat.reduceLeDiff, Int.reduceAdd, Int.reduceSub, Int.reduceMul, Int.reduceLE, Int.reduceLT, Int.reduceEq, Int.reduceNeg, Int.reduceToNat, Int.reduceTDiv, Int.reduceTMod, reduceIte, Nat.reduceEqDiff, Nat.reducePow, Int.reducePow, hh16, wL, w2, m2, Bool.not_true]
      refine ⟨h0, ?_⟩
      obtain ⟨x1, x2, x3⟩ := expand_ok s 2 hw (by omega) hs hb
      have hx : expV s = if ((List.range (countU s)).all fun j => charB (unitU s j)) = true then .tup [.str (textU s (countU s)), .int .i64 0] else .tup [.str [], .int .i64 2] := by
        rw [expV, if_neg (by rw [h1]; decide), if_neg hs, if_neg (by rw [hb]; decide)]
      rw [hx]
      refine wpc_loop Nat (fun j => [(0, .d (.str s)), (4, .d (.int .i64 2)), (5, .tsl 0 (((List.range j).map (unitU s)).map fun (n : Nat) => intEl n)), (6, .d (.int .i64 (1 + 2 * j : Nat)))])
        (fun j => [.tok 1 j]) (fun j => j ≤ countU s ∧ ∀ k, k < j → charB (unitU s k) = true) (fun j => countU s - j) 0
        (.step _ _ 5 .full [] 1 _ _ rfl (by decide) (.refl _ _)) (fun j hj => ⟨Nat.zero_le _, by simp [ltAll, AV.lt], rfl⟩) ⟨Nat.zero_le _, fun k hk => absurd hk (Nat.not_lt_zero _)⟩ rfl ?_ ?_
      · simp only [go_sem, Nat.reduceBEq, Nat.reduceAdd, Nat.reduceMul, Nat.reduceSub, Nat.reduceLeDiff, Int.reduceAdd, Int.reduceSub, Int.reduceMul, Int.reduceLE, Int.reduceLT, Int.reduceEq, Int.reduceNeg, Int.reduceToNat, Int.reduceTDiv, Int.reduceTMod, reduceIte, Nat.reduceEqDiff, Nat.reducePow, Int.reducePow, hh16, wL, w2, m2, Bool.not_true]
        exact ⟨rfl, rfl⟩
      intro j e ⟨hj, hc⟩ ⟨g0, g4, g5, g6, _⟩
      simp only [go_sem, Nat.reduceBEq, Nat.reduceAdd, Nat.reduceMul, Nat.reduceSub, Nat.reduceLeDiff, Int.reduceAdd, Int.reduceSub, Int.reduceMul, Int.reduceLE, Int.reduceLT, Int.reduceEq, Int.reduceNeg, Int.reduceToNat, Int.reduceTDiv, Int.reduceTMod, reduceIte, Nat.reduceEqDiff, Nat.reducePow, Int.reducePow, g0, g4, g5, g6]
      (first | with_reducible refine condW_not ?_ ?_ | refine condW_split ?_ ?_) <;> intro h5 <;> simp only [go_sem, Nat.reduceBEq, Nat.reduceAdd, Nat.reduceMul, Nat.reduceSub, Nat.reduceLeDiff, Int.reduceAdd, Int.reduceSub, Int.reduceMul, Int.reduceLE, Int.reduceLT, Int.reduceEq, Int.reduceNeg, Int.reduceToNat, Int.reduceTDiv, Int.reduceTMod, reduceIte, Nat.reduceEqDiff, Nat.reducePow, Int.reducePow, g0, g4, g5, g6, h5]
      · have hlt : j < countU s := by have := toProp h5; omega
        have hb1 : 1 + 2 * j < s.length := by omega
        have hb2 : 1 + 2 * j + 1 < s.length := by omega
        have q1 := (s[1 + 2 * j]).toNat_lt
        have q2 := (s[1 + 2 * j + 1]).toNat_lt
        have wN : IntKind.i64.wrap (((1 + 2 * j : Nat) : Int) + 1) = ((1 + 2 * j + 1 : Nat) : Int) := by rw [wrap_i64 (by omega) (by omega)]; omega
        have wM : IntKind.i64.wrap (256 * ((s[1 + 2 * j]).toNat : Int)) = 256 * ((s[1 + 2 * j]).toNat : Int) := wrap_i64 (by omega) (by omega)
        have hu : IntKind.i64.wrap (256 * ((s[1 + 2 * j]).toNat : Int) + ((s[1 + 2 * j + 1]).toNat : Int)) = (unitU s j : Nat) := by rw [unit_2 hw hb1 hb2, wrap_i64 (by omega) (by omega)]; omega
        refine ⟨⟨by omega, by omega⟩, ?_⟩
        simp only [go_sem, Nat.reduceBEq, Nat.reduceAdd, Nat.reduceMul, Nat.reduceSub, Nat.reduceLeDiff, Int.reduceAdd, Int.reduceSub, Int.reduceMul, Int.reduceLE, Int.reduceLT, Int.reduceEq, Int.reduceNeg, Int.reduceToNat, Int.reduceTDiv, Int.reduceTMod, reduceIte, Nat.reduceEqDiff, Nat.reducePow, Int.reducePow, g0, g4, g5, g6, wN, wM, Int.toNat_natCast, hu]
        refine ⟨⟨by omega, by omega⟩, ?_⟩
        refine callK_pf (p_rxchar (unitU s j : Nat)) (by first | (simp only [go_sem, Nat.reduceBEq, Nat.reduceAdd, Nat.reduceMul, Nat.reduceSub, Nat.reduceLeDiff, Int.reduceAdd, Int.reduceSub, Int.reduceMul, Int.reduceLE, Int.reduceLT, Int.reduceEq, Int.reduceNeg, Int.reduceToNat, Int.reduceTDiv, Int.reduceTMod, reduceIte, Nat.reduceEqDiff, Nat.reducePow, Int.reducePow]; done) | (simp only [go_sem, Nat.reduceBEq, Nat.reduceAdd, Nat.reduceMul, Nat.reduceSub, Nat.reduceLeDiff, Int.reduceAdd, Int.reduceSub, Int.reduceMul, Int.reduceLE, Int.reduceLT, Int.reduceEq, Int.reduceNeg, Int.reduceToNat, Int.reduceTDiv, Int.reduceTMod, reduceIte, Nat.reduceEqDiff, Nat.reducePow, Int.reducePow]; rfl) | rfl) ?_; simp only [go_sem, Nat.reduceBEq, Nat.reduceAdd, Nat.reduceMul, Nat.reduceSub, Nat.reduceLeDiff, Int.reduceAdd, Int.reduceSub, Int.reduceMul, Int.reduceLE, Int.reduceLT, Int.reduceEq, Int.reduceNeg, Int.reduceToNat, Int.reduceTDiv, Int.reduceTMod, reduceIte, Nat.reduceEqDiff, Nat.reducePow, Int.reducePow, g0, g4, g5, g6, wN, wM, Int.toNat_natCast, hu]
        (first | with_reducible refine condW_not ?_ ?_ | refine condW_split ?_ ?_) <;> intro h6 <;> simp only [go_sem, Nat.reduceBEq, Nat.reduceAdd, Nat.reduceMul, Nat.reduceSub, Nat.reduceLeDiff, Int.reduceAdd, Int.reduceSub, Int.reduceMul, Int.reduceLE, Int.reduceLT, Int.reduceEq, Int.reduceNeg, Int.reduceToNat, Int.reduceTDiv, Int.reduceTMod, reduceIte, Nat.reduceEqDiff, Nat.reducePow, Int.reducePow, g0, g4, g5, g6, wN, wM, Int.toNat_natCast, hu, h6]
        · rw [if_neg (all_no hlt h6)]
        · have hr : (List.range (j + 1)).map (unitU s) = (List.range j).map (unitU s) ++ [unitU s j] := by rw [List.range_succ, List.map_append]; rfl
          have wJ : IntKind.i64.wrap (((1 + 2 * j : Nat) : Int) + 2) = ((1 + 2 * (j + 1) : Nat) : Int) := by rw [wrap_i64 (by omega) (by omega)]; omega
          exact ⟨⟨by rw [List.length_range], by simp [szOk, intEl], by rw [List.length_range]; omega⟩, j + 1, ⟨by omega, fun k hk => by
            rcases Nat.lt_or_ge k j with h | h
            · exact hc k h
            · have : k = j := by omega
              subst this; exact h6⟩, by omega, ⟨[], by rw [List.length_range]⟩, by rw [hr, List.map_append]; rfl, by rw [wJ]⟩
      · have : j = countU s := by have := toNot h5; omega
        subst this
        have hall : ((List.range (countU s)).all fun j => charB (unitU s j)) = true := by
          rw [List.all_eq_true]
          intro k hk
          exact hc k (by simpa using hk)
        have pu := p_rutf8 (G := G) ((List.range (countU s)).map (unitU s)) (by simp; omega) (fun n hn => by
          obtain ⟨k, hk, rfl⟩ := List.mem_map.1 hn
          exact unit_lt (hc k (by simpa using hk)))
        rw [← textU_utf] at pu
        rw [if_pos hall]
        refine callK_pf (pu) (by first | (simp only [go_sem, Nat.reduceBEq, Nat.reduceAdd, Nat.reduceMul, Nat.reduceSub, Nat.reduceLeDiff, Int.reduceAdd, Int.reduceSub, Int.reduceMul, Int.reduceLE, Int.reduceLT, Int.reduceEq, Int.reduceNeg, Int.reduceToNat, Int.reduceTDiv, Int.reduceTMod, reduceIte, Nat.reduceEqDiff, Nat.reducePow, Int.reducePow]; done) | (simp only [go_sem, Nat.reduceBEq, Nat.reduceAdd, Nat.reduceMul, Nat.reduceSub, Nat.reduceLeDiff, Int.reduceAdd, Int.reduceSub, Int.reduceMul, Int.reduceLE, Int.reduceLT, Int.reduceEq, Int.reduceNeg, Int.reduceToNat, Int.reduceTDiv, Int.reduceTMod, reduceIte, Nat.reduceEqDiff, Nat.reducePow, Int.reducePow]; rfl) | rfl) ?_; simp only [go_sem, Nat.reduceBEq, Nat.reduceAdd, Nat.reduceMul, Nat.reduceSub, Nat.reduceLeDiff, Int.reduceAdd, Int.reduceSub, Int.reduceMul, Int.reduceLE, Int.reduceLT, Int.reduceEq, Int.reduceNeg, Int.reduceToNat, Int.reduceTDiv, Int.reduceTMod, reduceIte, Nat.reduceEqDiff, Nat.reducePow, Int.reducePow, g0, g4, g5, g6]
  · have hn8 : decide ((s[0].toNat : Int) = 8) = false := decide_eq_false (by omega)
    have hn16 : decide ((s[0].toNat : Int) = 16) = false := decide_eq_false (by omega)
    have hb : badU s = true := by unfold badU; simp [e8, e16]
    have hx : expV s = .tup [.str [], .int .i64 3] := by rw [expV, if_neg (by rw [h1]; decide), if_neg hs, if_pos hb]
    rw [hx]
    simp only [go_sem, Nat.reduceBEq, Nat.reduceAdd, Nat.reduceMul, Nat.reduceSub, Nat.reduceLeDiff, Int.reduceAdd, Int.reduceSub, Int.reduceMul, Int.reduceLE, Int.reduceLT, Int.reduceEq, Int.reduceNeg, Int.reduceToNat, Int.reduceTDiv, Int.reduceTMod, reduceIte, Nat.reduceEqDiff, Nat.reducePow, Int.reducePow, hn8, hn16, Bool.not_false]
    exact h0
end Go.Proofs.YtjmldlknegbimaaGreatDoor.Sx
