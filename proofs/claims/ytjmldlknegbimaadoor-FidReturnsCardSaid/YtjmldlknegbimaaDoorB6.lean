/- Spaces of attributes by the reference: what Encode computes. -/
import Derived.Test.YtjmldlknegbimaaDoorB5
set_option linter.unusedVariables false
set_option linter.unusedSimpArgs false
namespace Go.Proofs.YtjmldlknegbimaaDoor.Sx
open Go Go.RowKit
variable {G : Gl}

structure EncS where
  b : List UInt8
  o1 : Int
  o2 : Int
def encStep (s : EncS) (a : Attr) : EncS :=
  ⟨s.b ++ attrBytes a, if 2048 ≤ a.ty ∧ s.o1 = 4294967295 then 24 + s.b.length else s.o1, if 65536 ≤ a.ty ∧ s.o2 = 4294967295 then 24 + s.b.length else s.o2⟩
def encS (l : List Attr) : EncS := l.foldl encStep ⟨[], 4294967295, 4294967295⟩
theorem encS_succ (l : List Attr) (i : Nat) (h : i < l.length) : encS (l.take (i + 1)) = encStep (encS (l.take i)) l[i] := foldl_take_succ _ _ _ _ h
theorem attrBytes_len (a : Attr) (h : attrOk a = true) : (attrBytes a).length ≤ 2100 := by
  simp only [attrOk, Bool.and_eq_true, decide_eq_true_eq] at h
  simp only [attrBytes, List.length_append, leN_len, List.length_replicate, List.length_cons, List.length_nil]
  unfold attrLen; omega
theorem validA_ok (l : List Attr) (h : validA l = true) (i : Nat) (hi : i < l.length) : attrOk l[i] = true := by
  simp only [validA, Bool.and_eq_true, List.all_eq_true] at h
  have := h.1 i (by simpa using hi)
  rw [show l.getD i default = l[i] by simp [List.getD_eq_getElem?_getD, hi]] at this
  exact this.1
theorem validA_len (l : List Attr) (h : validA l = true) : l.length ≤ 16 := by
  simp only [validA, Bool.and_eq_true, decide_eq_true_eq] at h
  exact h.2
theorem encS_inv (l : List Attr) (h : validA l = true) : ∀ i, i ≤ l.length → (encS (l.take i)).b.length ≤ 2100 * i ∧
    ((encS (l.take i)).o1 = 4294967295 ∨ (0 ≤ (encS (l.take i)).o1 ∧ (encS (l.take i)).o1 ≤ 24 + (encS (l.take i)).b.length)) ∧
    ((encS (l.take i)).o2 = 4294967295 ∨ (0 ≤ (encS (l.take i)).o2 ∧ (encS (l.take i)).o2 ≤ 24 + (encS (l.take i)).b.length)) := by
  intro i
  induction i with
  | zero => intro _; simp [encS]
  | succ i ih =>
    intro hi
    obtain ⟨h1, h2, h3⟩ := ih (by omega)
    have hb := attrBytes_len _ (validA_ok l h i (by omega))
    rw [encS_succ l i (by omega)]
    simp only [encStep, List.length_append]
    refine ⟨by omega, ?_, ?_⟩
    · split <;> omega
    · split <;> omega
def encV (l : List Attr) (loc : Int) : DV :=
  if validA l = true then
    if (decide (0 ≤ loc) && decide (loc < 4294967296)) = true then
      if l.length = 0 then .tup [.str [], .int .i64 0]
      else if 2048 < 24 + (encS l).b.length then .tup [.str [], .int .i64 7]
      else sealV 262 1 loc (leN 4 (encS l).o1 ++ leN 4 (encS l).o2 ++ (encS l).b)
    else .tup [.str [], .int .i64 2]
  else .tup [.str [], .int .i64 1]
theorem p_rencode (l : List Attr) (loc : Int) (hl : l.length < 2 ^ 40) (hd : ∀ a ∈ l, a.data.length < 2 ^ 40) : PF Tryd.prog G 18 [.sl .any (l.map attrEl), .int .i64 loc] (encV l loc) := by
  refine PF.of_body mo Tryd.func18 rfl (by kernel_rfl) (by kernel_rfl) (by simp [Tryd.ntmps18]) ?_; simp only [go_sem, Nat.reduceBEq, Nat.reduceAdd, Nat.reduceMul, Nat.reduceSub, Nat.reduceLeDiff, Int.reduceAdd, Int.reduceSub, Int.reduceMul, Int.reduceLE, Int.reduceLT, Int.reduceEq, Int.reduceNeg, Int.reduceToNat, Int.reduceTDiv, Int.reduceTMod, reduceIte, Nat.reduceEqDiff, Nat.reducePow, Int.reducePow, Tryd.results18]
  refine callK_pf (p_rvalid l hl hd) (by first | (simp only [go_sem, Nat.reduceBEq, Nat.reduceAdd, Nat.reduceMul, Nat.reduceSub, Nat.reduceLeDiff, Int.reduceAdd, Int.reduceSub, Int.reduceMul, Int.reduceLE, Int.reduceLT, Int.reduceEq, Int.reduceNeg, Int.reduceToNat, Int.reduceTDiv, Int.reduceTMod, reduceIte, Nat.reduceEqDiff, Nat.reducePow, Int.reducePow]; done) | (simp only [go_sem, Nat.reduceBEq, Nat.reduceAdd, Nat.reduceMul, Nat.reduceSub, Nat.reduceLeDiff, Int.reduceAdd, Int.reduceSub, Int.reduceMul, Int.reduceLE, Int.reduceLT, Int.reduceEq, Int.reduceNeg, Int.reduceToNat, Int.reduceTDiv, Int.reduceTMod, reduceIte, Nat.reduceEqDiff, Nat.reducePow, Int.reducePow]; rfl) | rfl) ?_; simp only [go_sem, Nat.reduceBEq, Nat.reduceAdd, Nat.reduceMul, Nat.reduceSub, Nat.reduceLeDiff, Int.reduceAdd, Int.reduceSub, Int.reduceMul, Int.reduceLE, Int.reduceLT, Int.reduceEq, Int.reduceNeg, Int.reduceToNat, Int.reduceTDiv, Int.reduceTMod, reduceIte, Nat.reduceEqDiff, Nat.reducePow, Int.reducePow]
  (first | with_reducible refine condW_not ?_ ?_ | refine condW_split ?_ ?_) <;> intro h <;> simp only [go_sem, Nat.reduceBEq, Nat.reduceAdd, Nat.reduceMul, Nat.reduceSub, Nat.reduceLeDiff, Int.reduceAdd, Int.reduceSub, Int.reduceMul, Int.reduceLE, Int.reduceLT, Int.reduceEq, Int.reduceNeg, Int.reduceToNat, Int.reduceTDiv, Int.reduceTMod, reduceIte, Nat.reduceEqDiff, Nat.reducePow, Int.reducePow, h]
  · simp [encV, h]
  · refine callK_pf (p_word loc) (by first | (simp only [go_sem, Nat.reduceBEq, Nat.reduceAdd, Nat.reduceMul, Nat.reduceSub, Nat.reduceLeDiff, Int.reduceAdd, Int.reduceSub, Int.reduceMul, Int.reduceLE, Int.reduceLT, Int.reduceEq, Int.reduceNeg, Int.reduceToNat, Int.reduceTDiv, Int.reduceTMod, reduceIte, Nat.reduceEqDiff, Nat.reducePow, Int.reducePow]; done) | (simp only [go_sem, Nat.reduceBEq, Nat.reduceAdd, Nat.reduceMul, Nat.reduceSub, Nat.reduceLeDiff, Int.reduceAdd, Int.reduceSub, Int.reduceMul, Int.reduceLE, Int.reduceLT, Int.reduceEq, Int.reduceNeg, Int.reduceToNat, Int.reduceTDiv, Int.reduceTMod, reduceIte, Nat.reduceEqDiff, Nat.reducePow, Int.reducePow]; rfl) | rfl) ?_; simp only [go_sem, Nat.reduceBEq, Nat.reduceAdd, Nat.reduceMul, Nat.reduceSub, Nat.reduceLeDiff, Int.reduceAdd, Int.reduceSub, Int.reduceMul, Int.reduceLE, Int.reduceLT, Int.reduceEq, Int.reduceNeg, Int.reduceToNat, Int.reduceTDiv, Int.reduceTMod, reduceIte, Nat.reduceEqDiff, Nat.reducePow, Int.reducePow]
    (first | with_reducible refine condW_not ?_ ?_ | refine condW_split ?_ ?_) <;> intro h2 <;> simp only [go_sem, Nat.reduceBEq, Nat.reduceAdd, Nat.reduceMul, Nat.reduceSub, Nat.reduceLeDiff, Int.reduceAdd, Int.reduceSub, Int.reduceMul, Int.reduceLE, Int.reduceLT, Int.reduceEq, Int.reduceNeg, Int.reduceToNat, Int.reduceTDiv, Int.reduceTMod, reduceIte, Nat.reduceEqDiff, Nat.reducePow, Int.reducePow, h2]
    · rw [encV, if_pos h, if_neg (by rw [h2]; decide)]
    · (first | with_reducible refine condW_not ?_ ?_ | refine condW_split ?_ ?_) <;> intro h3 <;> simp only [go_sem, Nat.reduceBEq, Nat.reduceAdd, Nat.reduceMul, Nat.reduceSub, Nat.reduceLeDiff, Int.reduceAdd, Int.reduceSub, Int.reduceMul, Int.reduceLE, Int.reduceLT, Int.reduceEq, Int.reduceNeg, Int.reduceToNat, Int.reduceTDiv, Int.reduceTMod, reduceIte, Nat.reduceEqDiff, Nat.reducePow, Int.reducePow, h3]
      · have := toProp h3
        rw [encV, if_pos h, if_pos h2, if_pos (by omega)]
      · have h0 := toNot h3
        refine wpc_loop Nat (fun i => [(0, .d (.sl .any (l.map attrEl))), (1, .d (.int .i64 loc)), (6, .d (.str (encS (l.take i)).b)), (7, .d (.int .i64 (encS (l.take i)).o1)), (8, .d (.int .i64 (encS (l.take i)).o2)), (9, .d (.int .i64 i))]) (fun i => []) (fun i => i ≤ l.length) (fun i => l.length - i) 0
          (.refl _ _) (fun i hi => ⟨Nat.zero_le _, rfl, rfl⟩) (Nat.zero_le _) rfl ?_ ?_
        · simp only [go_sem, Nat.reduceBEq, Nat.reduceAdd, Nat.reduceMul, Nat.reduceSub, Nat.reduceLeDiff, Int.reduceAdd, Int.reduceSub, Int.reduceMul, Int.reduceLE, Int.reduceLT, Int.reduceEq, Int.reduceNeg, Int.reduceToNat, Int.reduceTDiv, Int.reduceTMod, reduceIte, Nat.reduceEqDiff, Nat.reducePow, Int.reducePow, Int.natCast_zero]
          simp [encS]
        intro i e hi ⟨g0, g1, g6, g7, g8, g9, _⟩
        have hv := validA_len l h
        have hk := encS_inv l h i hi
        have k1 := hk.1
        have k2 := hk.2.1
        have k3 := hk.2.2
        have ew : IntKind.i64.wrap (24 + ((encS (l.take i)).b.length : Int)) = 24 + ((encS (l.take i)).b.length : Int) := wrap_i64 (by omega) (by omega)
        simp only [go_sem, Nat.reduceBEq, Nat.reduceAdd, Nat.reduceMul, Nat.reduceSub, Nat.reduceLeDiff, Int.reduceAdd, Int.reduceSub, Int.reduceMul, Int.reduceLE, Int.reduceLT, Int.reduceEq, Int.reduceNeg, Int.reduceToNat, Int.reduceTDiv, Int.reduceTMod, reduceIte, Nat.reduceEqDiff, Nat.reducePow, Int.reducePow, g0, g1, g6, g7, g8, g9, ew]
        (first | with_reducible refine condW_not ?_ ?_ | refine condW_split ?_ ?_) <;> intro h4 <;> simp only [go_sem, Nat.reduceBEq, Nat.reduceAdd, Nat.reduceMul, Nat.reduceSub, Nat.reduceLeDiff, Int.reduceAdd, Int.reduceSub, Int.reduceMul, Int.reduceLE, Int.reduceLT, Int.reduceEq, Int.reduceNeg, Int.reduceToNat, Int.reduceTDiv, Int.reduceTMod, reduceIte, Nat.reduceEqDiff, Nat.reducePow, Int.reducePow, g0, g1, g6, g7, g8, g9, ew, h4]
        · have hlt : i < l.length := by have := toProp h4; omega
          have hix : 0 ≤ (i : Int) ∧ (i : Int).toNat < l.length := ⟨by omega, by simpa using hlt⟩
          have hok := validA_ok l h i hlt
          have es := encS_succ l i hlt
          refine ⟨hix, ?_⟩
          have hb := attrBytes_len _ hok
          have e6 : (encS (l.take (i + 1))).b = (encS (l.take i)).b ++ attrBytes l[i] := by rw [es]; rfl
          have e7 : (encS (l.take (i + 1))).o1 = if 2048 ≤ l[i].ty ∧ (encS (l.take i)).o1 = 4294967295 then 24 + ((encS (l.take i)).b.length : Int) else (encS (l.take i)).o1 := by rw [es]; rfl
          have e8 : (encS (l.take (i + 1))).o2 = if 65536 ≤ l[i].ty ∧ (encS (l.take i)).o2 = 4294967295 then 24 + ((encS (l.take i)).b.length : Int) else (encS (l.take i)).o2 := by rw [es]; rfl
          (first | with_reducible refine gO_not ?_ ?_ | with_reducible refine gT_not ?_ ?_ | refine gO_split ?_ ?_ | refine gT_split ?_ ?_) <;> intro a1 <;> simp only [go_sem, Nat.reduceBEq, Nat.reduceAdd, Nat.reduceMul, Nat.reduceSub, Nat.reduceLeDiff, Int.reduceAdd, Int.reduceSub, Int.reduceMul, Int.reduceLE, Int.reduceLT, Int.reduceEq, Int.reduceNeg, Int.reduceToNat, Int.reduceTDiv, Int.reduceTMod, reduceIte, Nat.reduceEqDiff, Nat.reducePow, Int.reducePow, g0, g1, g6, g7, g8, g9, ew, a1]
          all_goals try ((first | with_reducible refine condW_not ?_ ?_ | refine condW_split ?_ ?_) <;> intro a2 <;> simp only [go_sem, Nat.reduceBEq, Nat.reduceAdd, Nat.reduceMul, Nat.reduceSub, Nat.reduceLeDiff, Int.reduceAdd, Int.reduceSub, Int.reduceMul, Int.reduceLE, Int.reduceLT, Int.reduceEq, Int.reduceNeg, Int.reduceToNat, Int.reduceTDiv, Int.reduceTMod, reduceIte, Nat.reduceEqDiff, Nat.reducePow, Int.reducePow, g0, g1, g6, g7, g8, g9, ew, a2])
          all_goals (refine ⟨hix, ?_⟩)
          all_goals ((first | with_reducible refine gO_not ?_ ?_ | with_reducible refine gT_not ?_ ?_ | refine gO_split ?_ ?_ | refine gT_split ?_ ?_) <;> intro a3 <;> simp only [go_sem, Nat.reduceBEq, Nat.reduceAdd, Nat.reduceMul, Nat.reduceSub, Nat.reduceLeDiff, Int.reduceAdd, Int.reduceSub, Int.reduceMul, Int.reduceLE, Int.reduceLT, Int.reduceEq, Int.reduceNeg, Int.reduceToNat, Int.reduceTDiv, Int.reduceTMod, reduceIte, Nat.reduceEqDiff, Nat.reducePow, Int.reducePow, g0, g1, g6, g7, g8, g9, ew, a3])
          all_goals try ((first | with_reducible refine condW_not ?_ ?_ | refine condW_split ?_ ?_) <;> intro a4 <;> simp only [go_sem, Nat.reduceBEq, Nat.reduceAdd, Nat.reduceMul, Nat.reduceSub, Nat.reduceLeDiff, Int.reduceAdd, Int.reduceSub, Int.reduceMul, Int.reduceLE, Int.reduceLT, Int.reduceEq, Int.reduceNeg, Int.reduceToNat, Int.reduceTDiv, Int.reduceTMod, reduceIte, Nat.reduceEqDiff, Nat.reducePow, Int.reducePow, g0, g1, g6, g7, g8, g9, ew, a4])
          all_goals (refine ⟨hix, ?_⟩)
          all_goals (refine callK_pf (p_rattr l[i] hok) (by first | (simp only [go_sem, Nat.reduceBEq, Nat.reduceAdd, Nat.reduceMul, Nat.reduceSub, Nat.reduceLeDiff, Int.reduceAdd, Int.reduceSub, Int.reduceMul, Int.reduceLE, Int.reduceLT, Int.reduceEq, Int.reduceNeg, Int.reduceToNat, Int.reduceTDiv, Int.reduceTMod, reduceIte, Nat.reduceEqDiff, Nat.reducePow, Int.reducePow]; done) | (simp only [go_sem, Nat.reduceBEq, Nat.reduceAdd, Nat.reduceMul, Nat.reduceSub, Nat.reduceLeDiff, Int.reduceAdd, Int.reduceSub, Int.reduceMul, Int.reduceLE, Int.reduceLT, Int.reduceEq, Int.reduceNeg, Int.reduceToNat, Int.reduceTDiv, Int.reduceTMod, reduceIte, Nat.reduceEqDiff, Nat.reducePow, Int.reducePow]; rfl) | rfl) ?_; simp only [go_sem, Nat.reduceBEq, Nat.reduceAdd, Nat.reduceMul, Nat.reduceSub, Nat.reduceLeDiff, Int.reduceAdd, Int.reduceSub, Int.reduceMul, Int.reduceLE, Int.reduceLT, Int.reduceEq, Int.reduceNeg, Int.reduceToNat, Int.reduceTDiv, Int.reduceTMod, reduceIte, Nat.reduceEqDiff, Nat.reducePow, Int.reducePow, g0, g1, g6, g7, g8, g9, ew])
          all_goals
            refine ⟨by omega, i + 1, by omega, by omega, ⟨_, rfl⟩, by rw [e6], ?_, ?_, by rw [wrap_i64 (by omega) (by omega)]; rfl⟩
          all_goals simp only [decide_eq_true_eq, decide_eq_false_iff_not] at *
          all_goals (first | rw [e7] | rw [e8])
          all_goals split
          all_goals first | rfl | omega
        · have : i = l.length := by have := toNot h4; omega
          subst this
          rw [List.take_length] at k1 k2 k3 ew g6 g7 g8
          simp only [go_sem, Nat.reduceBEq, Nat.reduceAdd, Nat.reduceMul, Nat.reduceSub, Nat.reduceLeDiff, Int.reduceAdd, Int.reduceSub, Int.reduceMul, Int.reduceLE, Int.reduceLT, Int.reduceEq, Int.reduceNeg, Int.reduceToNat, Int.reduceTDiv, Int.reduceTMod, reduceIte, Nat.reduceEqDiff, Nat.reducePow, Int.reducePow, g0, g1, g6, g7, g8, g9, ew, leN_len, List.take_length]
          (first | with_reducible refine condW_not ?_ ?_ | refine condW_split ?_ ?_) <;> intro h5 <;> simp only [go_sem, Nat.reduceBEq, Nat.reduceAdd, Nat.reduceMul, Nat.reduceSub, Nat.reduceLeDiff, Int.reduceAdd, Int.reduceSub, Int.reduceMul, Int.reduceLE, Int.reduceLT, Int.reduceEq, Int.reduceNeg, Int.reduceToNat, Int.reduceTDiv, Int.reduceTMod, reduceIte, Nat.reduceEqDiff, Nat.reducePow, Int.reducePow, g0, g1, g6, g7, g8, g9, ew, leN_len, h5]
          · have := toProp h5
            rw [encV, if_pos h, if_pos h2, if_neg (by omega), if_pos (by omega)]
          · have hs5 := toNot h5
            refine callK_pf (p_bytes (encS l).o1 4 (by omega) (by omega) (by decide) (by decide)) (by first | (simp only [go_sem, Nat.reduceBEq, Nat.reduceAdd, Nat.reduceMul, Nat.reduceSub, Nat.reduceLeDiff, Int.reduceAdd, Int.reduceSub, Int.reduceMul, Int.reduceLE, Int.reduceLT, Int.reduceEq, Int.reduceNeg, Int.reduceToNat, Int.reduceTDiv, Int.reduceTMod, reduceIte, Nat.reduceEqDiff, Nat.reducePow, Int.reducePow]; done) | (simp only [go_sem, Nat.reduceBEq, Nat.reduceAdd, Nat.reduceMul, Nat.reduceSub, Nat.reduceLeDiff, Int.reduceAdd, Int.reduceSub, Int.reduceMul, Int.reduceLE, Int.reduceLT, Int.reduceEq, Int.reduceNeg, Int.reduceToNat, Int.reduceTDiv, Int.reduceTMod, reduceIte, Nat.reduceEqDiff, Nat.reducePow, Int.reducePow]; rfl) | rfl) ?_; simp only [go_sem, Nat.reduceBEq, Nat.reduceAdd, Nat.reduceMul, Nat.reduceSub, Nat.reduceLeDiff, Int.reduceAdd, Int.reduceSub, Int.reduceMul, Int.reduceLE, Int.reduceLT, Int.reduceEq, Int.reduceNeg, Int.reduceToNat, Int.reduceTDiv, Int.reduceTMod, reduceIte, Nat.reduceEqDiff, Nat.reducePow, Int.reducePow, g0, g1, g6, g7, g8, g9, ew, leN_len]
            refine callK_pf (p_bytes (encS l).o2 4 (by omega) (by omega) (by decide) (by decide)) (by first | (simp only [go_sem, Nat.reduceBEq, Nat.reduceAdd, Nat.reduceMul, Nat.reduceSub, Nat.reduceLeDiff, Int.reduceAdd, Int.reduceSub, Int.reduceMul, Int.reduceLE, Int.reduceLT, Int.reduceEq, Int.reduceNeg, Int.reduceToNat, Int.reduceTDiv, Int.reduceTMod, reduceIte, Nat.reduceEqDiff, Nat.reducePow, Int.reducePow]; done) | (simp only [go_sem, Nat.reduceBEq, Nat.reduceAdd, Nat.reduceMul, Nat.reduceSub, Nat.reduceLeDiff, Int.reduceAdd, Int.reduceSub, Int.reduceMul, Int.reduceLE, Int.reduceLT, Int.reduceEq, Int.reduceNeg, Int.reduceToNat, Int.reduceTDiv, Int.reduceTMod, reduceIte, Nat.reduceEqDiff, Nat.reducePow, Int.reducePow]; rfl) | rfl) ?_; simp only [go_sem, Nat.reduceBEq, Nat.reduceAdd, Nat.reduceMul, Nat.reduceSub, Nat.reduceLeDiff, Int.reduceAdd, Int.reduceSub, Int.reduceMul, Int.reduceLE, Int.reduceLT, Int.reduceEq, Int.reduceNeg, Int.reduceToNat, Int.reduceTDiv, Int.reduceTMod, reduceIte, Nat.reduceEqDiff, Nat.reducePow, Int.reducePow, g0, g1, g6, g7, g8, g9, ew, leN_len]
            refine ⟨by omega, ?_⟩
            have hsv : encV l loc = sealV 262 1 loc (leN 4 (encS l).o1 ++ leN 4 (encS l).o2 ++ (encS l).b) := by
              rw [encV, if_pos h, if_pos h2, if_neg (by omega), if_neg (by omega)]
            rw [hsv]
            refine callK_pf (p_rseal 262 1 loc (leN 4 (encS l).o1 ++ leN 4 (encS l).o2 ++ (encS l).b) (by simp [leN_len]; omega)) (by first | (simp only [go_sem, Nat.reduceBEq, Nat.reduceAdd, Nat.reduceMul, Nat.reduceSub, Nat.reduceLeDiff, Int.reduceAdd, Int.reduceSub, Int.reduceMul, Int.reduceLE, Int.reduceLT, Int.reduceEq, Int.reduceNeg, Int.reduceToNat, Int.reduceTDiv, Int.reduceTMod, reduceIte, Nat.reduceEqDiff, Nat.reducePow, Int.reducePow]; done) | (simp only [go_sem, Nat.reduceBEq, Nat.reduceAdd, Nat.reduceMul, Nat.reduceSub, Nat.reduceLeDiff, Int.reduceAdd, Int.reduceSub, Int.reduceMul, Int.reduceLE, Int.reduceLT, Int.reduceEq, Int.reduceNeg, Int.reduceToNat, Int.reduceTDiv, Int.reduceTMod, reduceIte, Nat.reduceEqDiff, Nat.reducePow, Int.reducePow]; rfl) | rfl) ?_; simp only [go_sem, Nat.reduceBEq, Nat.reduceAdd, Nat.reduceMul, Nat.reduceSub, Nat.reduceLeDiff, Int.reduceAdd, Int.reduceSub, Int.reduceMul, Int.reduceLE, Int.reduceLT, Int.reduceEq, Int.reduceNeg, Int.reduceToNat, Int.reduceTDiv, Int.reduceTMod, reduceIte, Nat.reduceEqDiff, Nat.reducePow, Int.reducePow, g0, g1, g6, g7, g8, g9, ew, leN_len]
            unfold sealV
            split
            · split <;> rename_i hh <;> simp only [go_sem, Nat.reduceBEq, Nat.reduceAdd, Nat.reduceMul, Nat.reduceSub, Nat.reduceLeDiff, Int.reduceAdd, Int.reduceSub, Int.reduceMul, Int.reduceLE, Int.reduceLT, Int.reduceEq, Int.reduceNeg, Int.reduceToNat, Int.reduceTDiv, Int.reduceTMod, reduceIte, Nat.reduceEqDiff, Nat.reducePow, Int.reducePow, g0, g1, g6, g7, g8, g9, ew, leN_len, hh]
            · simp only [go_sem, Nat.reduceBEq, Nat.reduceAdd, Nat.reduceMul, Nat.reduceSub, Nat.reduceLeDiff, Int.reduceAdd, Int.reduceSub, Int.reduceMul, Int.reduceLE, Int.reduceLT, Int.reduceEq, Int.reduceNeg, Int.reduceToNat, Int.reduceTDiv, Int.reduceTMod, reduceIte, Nat.reduceEqDiff, Nat.reducePow, Int.reducePow, g0, g1, g6, g7, g8, g9, ew, leN_len]
end Go.Proofs.YtjmldlknegbimaaDoor.Sx
