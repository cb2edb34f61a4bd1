/- Compressed Unicode: both Compress functions against one plain function. -/
import Derived.Test.YtjmldlknegbimaaGreatDoorB14
set_option linter.unusedVariables false
set_option linter.unusedSimpArgs false
namespace Go.Proofs.YtjmldlknegbimaaGreatDoor.Sx
open Go Go.RowKit
variable {G : Gl}
def beC (W : Nat) (n : Nat) : List UInt8 := (leN W n).reverse
def compB (W : Nat) (l : List Nat) : List UInt8 := UInt8.ofNat (8 * W) :: (l.map (beC W)).flatten
theorem beC_len (W n : Nat) : (beC W n).length = W := by simp [beC, leN_len]
theorem flat_len (W : Nat) : ∀ l : List Nat, ((l.map (beC W)).flatten).length = W * l.length
  | [] => by simp
  | x :: l => by rw [List.map_cons, List.flatten_cons, List.length_append, beC_len, flat_len W l, List.length_cons, Nat.mul_succ, Nat.add_comm]
theorem compB_succ (W : Nat) (l : List Nat) (i : Nat) (h : i < l.length) : compB W (l.take (i + 1)) = compB W (l.take i) ++ beC W l[i] := by
  rw [List.take_succ_eq_append_getElem h, compB, List.map_append, List.flatten_append, compB]
  simp only [List.map_cons, List.map_nil, List.flatten_cons, List.flatten_nil, List.append_nil, List.cons_append]
theorem compB_len (W : Nat) (l : List Nat) : (compB W l).length = 1 + W * l.length := by
  rw [compB, List.length_cons, flat_len]; omega
def sizeC (l : List Nat) : Nat := if l.any (fun n => decide (255 < n)) = true then 2 else 1
theorem sizeC_two (l : List Nat) : sizeC l = 1 ∨ sizeC l = 2 := by unfold sizeC; split <;> simp
def squeezeP (l : List Nat) : List UInt8 := if l.length = 0 then [] else compB (sizeC l) l
theorem byteI8 (c : Nat) (i : Nat) : IntKind.u8.wrap (Int.fdiv (c : Int) (2 ^ (8 * i))) = ((byteAt c i).toNat : Int) := by
  rw [byteAt_toNat, IntKind.wrap_u8, Int.fdiv_eq_ediv_of_nonneg _ (Int.le_of_lt (Int.pow_pos (by decide)))]
set_option maxRecDepth 4000 in
theorem p_squeeze (l : List Nat) (hl : l.length < 2 ^ 28) (hc : ∀ n ∈ l, n < 65536) : PF Tryz.prog G 55 [.sl .any (l.map fun (n : Nat) => intEl n)] (.str (squeezeP l)) := by
  refine PF.of_body mo Tryz.func55 rfl (by kernel_rfl) (by kernel_rfl) (by simp [Tryz.ntmps55]) ?_; simp only [go_sem, Nat.reduceBEq, Nat.reduceAdd, Nat.reduceMul, Nat.reduceSub, Nat.reduceLeDiff, Int.reduceAdd, Int.reduceSub, Int.reduceMul, Int.reduceLE, Int.reduceLT, Int.reduceEq, Int.reduceNeg, Int.reduceToNat, Int.reduceTDiv, Int.reduceTMod, reduceIte, Nat.reduceEqDiff, Nat.reducePow, Int.reducePow, Tryz.results55]
  (first | with_reducible refine condW_not ?_ ?_ | refine condW_split ?_ ?_) <;> intro h1 <;> simp only [go_sem, Nat.reduceBEq, Nat.reduceAdd, Nat.reduceMul, Nat.reduceSub, Nat.reduceLeDiff, Int.reduceAdd, Int.reduceSub, Int.reduceMul, Int.reduceLE, Int.reduceLT, Int.reduceEq, Int.reduceNeg, Int.reduceToNat, Int.reduceTDiv, Int.reduceTMod, reduceIte, Nat.reduceEqDiff, Nat.reducePow, Int.reducePow, h1]
  · rw [squeezeP, if_pos (by have := toProp h1; omega)]
  · have h0 := toNot h1
    refine wpc_loop Nat (fun i => [(0, .d (.sl .any (l.map fun (n : Nat) => intEl n))), (3, .d (.int .i64 (sizeC (l.take i)))), (4, .d (.int .i64 i))]) (fun i => []) (fun i => i ≤ l.length) (fun i => l.length - i) 0
      (.refl _ _) (fun i hi => ⟨Nat.zero_le _, rfl, rfl⟩) (Nat.zero_le _) rfl ?_ ?_
    · simp only [go_sem, Nat.reduceBEq, Nat.reduceAdd, Nat.reduceMul, Nat.reduceSub, Nat.reduceLeDiff, Int.reduceAdd, Int.reduceSub, Int.reduceMul, Int.reduceLE, Int.reduceLT, Int.reduceEq, Int.reduceNeg, Int.reduceToNat, Int.reduceTDiv, Int.reduceTMod, reduceIte, Nat.reduceEqDiff, Nat.reducePow, Int.reducePow]
      simp [sizeC]
    intro i e i2 ⟨g0, g3, g4, _⟩
    simp only [go_sem, Nat.reduceBEq, Nat.reduceAdd, Nat.reduceMul, Nat.reduceSub, Nat.reduceLeDiff, Int.reduceAdd, Int.reduceSub, Int.reduceMul, Int.reduceLE, Int.reduceLT, Int.reduceEq, Int.reduceNeg, Int.reduceToNat, Int.reduceTDiv, Int.reduceTMod, reduceIte, Nat.reduceEqDiff, Nat.reducePow, Int.reducePow, g0, g3, g4]
    (first | with_reducible refine condW_not ?_ ?_ | refine condW_split ?_ ?_) <;> intro h2 <;> simp only [go_sem, Nat.reduceBEq, Nat.reduceAdd, Nat.reduceMul, Nat.reduceSub, Nat.reduceLeDiff, Int.reduceAdd, Int.reduceSub, Int.reduceMul, Int.reduceLE, Int.reduceLT, Int.reduceEq, Int.reduceNeg, Int.reduceToNat, Int.reduceTDiv, Int.reduceTMod, reduceIte, Nat.reduceEqDiff, Nat.reducePow, Int.reducePow, g0, g3, g4, h2]
    · have hlt : i < l.length := by have := toProp h2; omega
      have hs : sizeC (l.take (i + 1)) = if 255 < l[i] then 2 else sizeC (l.take i) := by
        rw [sizeC, List.take_succ_eq_append_getElem hlt, List.any_append]
        by_cases hh : 255 < l[i]
        · simp [hh]
        · simp [hh, sizeC]
      refine ⟨⟨by omega, by omega⟩, ?_⟩
      (first | with_reducible refine condW_not ?_ ?_ | refine condW_split ?_ ?_) <;> intro h3 <;> simp only [go_sem, Nat.reduceBEq, Nat.reduceAdd, Nat.reduceMul, Nat.reduceSub, Nat.reduceLeDiff, Int.reduceAdd, Int.reduceSub, Int.reduceMul, Int.reduceLE, Int.reduceLT, Int.reduceEq, Int.reduceNeg, Int.reduceToNat, Int.reduceTDiv, Int.reduceTMod, reduceIte, Nat.reduceEqDiff, Nat.reducePow, Int.reducePow, g0, g3, g4, h3]
      · exact ⟨i + 1, by omega, by omega, ⟨_, rfl⟩, by rw [hs, if_pos (by have := toProp h3; omega)]; rfl, by rw [wrap_i64 (by omega) (by omega)]; rfl⟩
      · exact ⟨i + 1, by omega, by omega, ⟨_, rfl⟩, by rw [hs, if_neg (by have := toNot h3; omega)], by rw [wrap_i64 (by omega) (by omega)]; rfl⟩
    · have : i = l.length := by have := toNot h2; omega
      subst this
      rw [List.take_length] at g3
      have hW := sizeC_two l
      have w8 : IntKind.i64.wrap (8 * (sizeC l : Int)) = 8 * (sizeC l : Int) := wrap_i64 (by omega) (by omega)
      have c0 : UInt8.ofNat (IntKind.u8.wrap (8 * (sizeC l : Int))).toNat = UInt8.ofNat (8 * sizeC l) := by
        rcases hW with h | h <;> rw [h] <;> rfl
      simp only [go_sem, Nat.reduceBEq, Nat.reduceAdd, Nat.reduceMul, Nat.reduceSub, Nat.reduceLeDiff, Int.reduceAdd, Int.reduceSub, Int.reduceMul, Int.reduceLE, Int.reduceLT, Int.reduceEq, Int.reduceNeg, Int.reduceToNat, Int.reduceTDiv, Int.reduceTMod, reduceIte, Nat.reduceEqDiff, Nat.reducePow, Int.reducePow, g0, g3, g4, w8, cvBy_sl, bytesOf_int, bytesOf_nil, c0]
      refine wpc_loop Nat (fun i => [(0, .d (.sl .any (l.map fun (n : Nat) => intEl n))), (3, .d (.int .i64 (sizeC l))), (5, .d (.str (compB (sizeC l) (l.take i)))), (6, .d (.int .i64 i))]) (fun i => []) (fun i => i ≤ l.length) (fun i => l.length - i) 0
        (.refl _ _) (fun i hi => ⟨Nat.zero_le _, rfl, rfl⟩) (Nat.zero_le _) rfl ?_ ?_
      · simp only [go_sem, Nat.reduceBEq, Nat.reduceAdd, Nat.reduceMul, Nat.reduceSub, Nat.reduceLeDiff, Int.reduceAdd, Int.reduceSub, Int.reduceMul, Int.reduceLE, Int.reduceLT, Int.reduceEq, Int.reduceNeg, Int.reduceToNat, Int.reduceTDiv, Int.reduceTMod, reduceIte, Nat.reduceEqDiff, Nat.reducePow, Int.reducePow, g0, g3, g4, w8, cvBy_sl, bytesOf_int, bytesOf_nil, c0]
        rw [List.take_length, w8, c0]
        exact ⟨rfl, rfl⟩
      intro i e i2 ⟨k0, k3, k5, k6, _⟩
      simp only [go_sem, Nat.reduceBEq, Nat.reduceAdd, Nat.reduceMul, Nat.reduceSub, Nat.reduceLeDiff, Int.reduceAdd, Int.reduceSub, Int.reduceMul, Int.reduceLE, Int.reduceLT, Int.reduceEq, Int.reduceNeg, Int.reduceToNat, Int.reduceTDiv, Int.reduceTMod, reduceIte, Nat.reduceEqDiff, Nat.reducePow, Int.reducePow, k0, k3, k5, k6]
      (first | with_reducible refine condW_not ?_ ?_ | refine condW_split ?_ ?_) <;> intro h5 <;> simp only [go_sem, Nat.reduceBEq, Nat.reduceAdd, Nat.reduceMul, Nat.reduceSub, Nat.reduceLeDiff, Int.reduceAdd, Int.reduceSub, Int.reduceMul, Int.reduceLE, Int.reduceLT, Int.reduceEq, Int.reduceNeg, Int.reduceToNat, Int.reduceTDiv, Int.reduceTMod, reduceIte, Nat.reduceEqDiff, Nat.reducePow, Int.reducePow, k0, k3, k5, k6, h5]
      · have hlt : i < l.length := by have := toProp h5; omega
        have hn := hc l[i] (by simp)
        refine ⟨⟨by omega, by omega⟩, ?_⟩
        refine callK_pf (p_bytes (l[i] : Int) (sizeC l) (by omega) (by omega) (by omega) (by omega)) (by first | (simp only [go_sem, Nat.reduceBEq, Nat.reduceAdd, Nat.reduceMul, Nat.reduceSub, Nat.reduceLeDiff, Int.reduceAdd, Int.reduceSub, Int.reduceMul, Int.reduceLE, Int.reduceLT, Int.reduceEq, Int.reduceNeg, Int.reduceToNat, Int.reduceTDiv, Int.reduceTMod, reduceIte, Nat.reduceEqDiff, Nat.reducePow, Int.reducePow]; done) | (simp only [go_sem, Nat.reduceBEq, Nat.reduceAdd, Nat.reduceMul, Nat.reduceSub, Nat.reduceLeDiff, Int.reduceAdd, Int.reduceSub, Int.reduceMul, Int.reduceLE, Int.reduceLT, Int.reduceEq, Int.reduceNeg, Int.reduceToNat, Int.reduceTDiv, Int.reduceTMod, reduceIte, Nat.reduceEqDiff, Nat.reducePow, Int.reducePow]; rfl) | rfl) ?_; simp only [go_sem, Nat.reduceBEq, Nat.reduceAdd, Nat.reduceMul, Nat.reduceSub, Nat.reduceLeDiff, Int.reduceAdd, Int.reduceSub, Int.reduceMul, Int.reduceLE, Int.reduceLT, Int.reduceEq, Int.reduceNeg, Int.reduceToNat, Int.reduceTDiv, Int.reduceTMod, reduceIte, Nat.reduceEqDiff, Nat.reducePow, Int.reducePow, k0, k3, k5, k6]
        refine callK_pf (p_rev (leN (sizeC l : Int).toNat (l[i] : Nat)) (by rw [leN_len]; omega)) (by first | (simp only [go_sem, Nat.reduceBEq, Nat.reduceAdd, Nat.reduceMul, Nat.reduceSub, Nat.reduceLeDiff, Int.reduceAdd, Int.reduceSub, Int.reduceMul, Int.reduceLE, Int.reduceLT, Int.reduceEq, Int.reduceNeg, Int.reduceToNat, Int.reduceTDiv, Int.reduceTMod, reduceIte, Nat.reduceEqDiff, Nat.reducePow, Int.reducePow]; done) | (simp only [go_sem, Nat.reduceBEq, Nat.reduceAdd, Nat.reduceMul, Nat.reduceSub, Nat.reduceLeDiff, Int.reduceAdd, Int.reduceSub, Int.reduceMul, Int.reduceLE, Int.reduceLT, Int.reduceEq, Int.reduceNeg, Int.reduceToNat, Int.reduceTDiv, Int.reduceTMod, reduceIte, Nat.reduceEqDiff, Nat.reducePow, Int.reducePow]; rfl) | rfl) ?_; simp only [go_sem, Nat.reduceBEq, Nat.reduceAdd, Nat.reduceMul, Nat.reduceSub, Nat.reduceLeDiff, Int.reduceAdd, Int.reduceSub, Int.reduceMul, Int.reduceLE, Int.reduceLT, Int.reduceEq, Int.reduceNeg, Int.reduceToNat, Int.reduceTDiv, Int.reduceTMod, reduceIte, Nat.reduceEqDiff, Nat.reducePow, Int.reducePow, k0, k3, k5, k6]
        have hlen := compB_len (sizeC l) (l.take i)
        have hm : sizeC l * (l.take i).length ≤ 2 * l.length := Nat.mul_le_mul (by omega) (by rw [List.length_take]; omega)
        refine ⟨by simp [leN_len]; omega, i + 1, by omega, by omega, ⟨_, rfl⟩, by rw [compB_succ _ _ _ hlt]; rfl, by rw [wrap_i64 (by omega) (by omega)]; rfl⟩
      · have : i = l.length := by have := toNot h5; omega
        subst this
        rw [List.take_length, squeezeP, if_neg (by omega)]
set_option maxRecDepth 4000 in
theorem p_comp (l : List Nat) (W : Nat) (hW : W = 1 ∨ W = 2) (hl : l.length < 2 ^ 28) (hc : ∀ n ∈ l, n < 65536) : PF Tryz.prog G 82 [.sl .any (l.map fun (n : Nat) => intEl n), .int .i64 W] (.str (compB W l)) := by
  have w8 : IntKind.i64.wrap (8 * (W : Int)) = 8 * (W : Int) := wrap_i64 (by omega) (by omega)
  have c0 : IntKind.u8.wrap (8 * (W : Int)) = ((UInt8.ofNat (8 * W)).toNat : Int) := by
    rcases hW with h | h <;> rw [h] <;> rfl
  have bl : ∀ m : List Nat, m.length ≤ l.length → (compB W m).length ≤ 1 + 2 * l.length := fun m hm => by
    rw [compB_len]
    have : W * m.length ≤ 2 * l.length := Nat.mul_le_mul (by omega) hm
    omega
  refine PF.of_body mo Tryz.func82 rfl (by kernel_rfl) (by kernel_rfl) (by simp [Tryz.ntmps82]) ?_; simp only [go_sem, Nat.reduceBEq, Nat.reduceAdd, Nat.reduceMul, Nat.reduceSub, Nat.reduceLeDiff, Int.reduceAdd, Int.reduceSub, Int.reduceMul, Int.reduceLE, Int.reduceLT, Int.reduceEq, Int.reduceNeg, Int.reduceToNat, Int.reduceTDiv, Int.reduceTMod, reduceIte, Nat.reduceEqDiff, Nat.reducePow, Int.reducePow, Tryz.results82]
  simp only [go_sem, Nat.reduceBEq, Nat.reduceAdd, Nat.reduceMul, Nat.reduceSub, Nat.reduceLeDiff, Int.reduceAdd, Int.reduceSub, Int.reduceMul, Int.reduceLE, Int.reduceLT, Int.reduceEq, Int.reduceNeg, Int.reduceToNat, Int.reduceTDiv, Int.reduceTMod, reduceIte, Nat.reduceEqDiff, Nat.reducePow, Int.reducePow, w8, c0]
  refine wpc_loop Nat (fun i => [(0, .d (.sl .any (l.map fun (n : Nat) => intEl n))), (1, .d (.int .i64 W)), (5, .tsl 0 ((compB W (l.take i)).map byteEl)), (13, .d (.sl .any (l.map fun (n : Nat) => intEl n))), (14, .d (.int .i64 l.length)), (15, .d (.int .i64 i))]) (fun i => [.tok 1 (compB W (l.take i)).length]) (fun i => i ≤ l.length) (fun i => l.length - i) 0
    (.step _ _ 5 .full [byteEl (UInt8.ofNat (8 * W))] 1 _ _ rfl (by decide) (.refl _ _)) (fun i hi => ⟨Nat.zero_le _, rfl, rfl⟩) (Nat.zero_le _) rfl ?_ ?_
  · simp only [go_sem, Nat.reduceBEq, Nat.reduceAdd, Nat.reduceMul, Nat.reduceSub, Nat.reduceLeDiff, Int.reduceAdd, Int.reduceSub, Int.reduceMul, Int.reduceLE, Int.reduceLT, Int.reduceEq, Int.reduceNeg, Int.reduceToNat, Int.reduceTDiv, Int.reduceTMod, reduceIte, Nat.reduceEqDiff, Nat.reducePow, Int.reducePow, w8, c0]
    exact ⟨rfl, rfl⟩
  intro i e hi ⟨g0, g1, g5, g13, g14, g15, _⟩
  simp only [go_sem, Nat.reduceBEq, Nat.reduceAdd, Nat.reduceMul, Nat.reduceSub, Nat.reduceLeDiff, Int.reduceAdd, Int.reduceSub, Int.reduceMul, Int.reduceLE, Int.reduceLT, Int.reduceEq, Int.reduceNeg, Int.reduceToNat, Int.reduceTDiv, Int.reduceTMod, reduceIte, Nat.reduceEqDiff, Nat.reducePow, Int.reducePow, g0, g1, g5, g13, g14, g15]
  (first | with_reducible refine condW_not ?_ ?_ | refine condW_split ?_ ?_) <;> intro h2 <;> simp only [go_sem, Nat.reduceBEq, Nat.reduceAdd, Nat.reduceMul, Nat.reduceSub, Nat.reduceLeDiff, Int.reduceAdd, Int.reduceSub, Int.reduceMul, Int.reduceLE, Int.reduceLT, Int.reduceEq, Int.reduceNeg, Int.reduceToNat, Int.reduceTDiv, Int.reduceTMod, reduceIte, Nat.reduceEqDiff, Nat.reducePow, Int.reducePow, g0, g1, g5, g13, g14, g15, h2]
  · have hlt : i < l.length := by have := toProp h2; omega
    have hn := hc l[i] (by simp)
    refine ⟨⟨by omega, by omega⟩, ?_⟩
    refine wpc_loop Nat (fun k => [(0, .d (.sl .any (l.map fun (n : Nat) => intEl n))), (1, .d (.int .i64 W)), (5, .tsl 0 ((compB W (l.take i) ++ (beC W l[i]).take k).map byteEl)), (7, .d (.int .i64 l[i])), (13, .d (.sl .any (l.map fun (n : Nat) => intEl n))), (14, .d (.int .i64 l.length)), (15, .d (.int .i64 i)), (19, .d (.int .i64 W)), (20, .d (.int .i64 k))]) (fun k => [.tok 1 (compB W (l.take i) ++ (beC W l[i]).take k).length]) (fun k => k ≤ W) (fun k => W - k) 0
      (.refl _ _) (fun k hk => ⟨Nat.zero_le _, rfl, rfl⟩) (Nat.zero_le _) (by simp) ?_ ?_
    · simp only [go_sem, Nat.reduceBEq, Nat.reduceAdd, Nat.reduceMul, Nat.reduceSub, Nat.reduceLeDiff, Int.reduceAdd, Int.reduceSub, Int.reduceMul, Int.reduceLE, Int.reduceLT, Int.reduceEq, Int.reduceNeg, Int.reduceToNat, Int.reduceTDiv, Int.reduceTMod, reduceIte, Nat.reduceEqDiff, Nat.reducePow, Int.reducePow, g0, g1, g5, g13, g14, g15]
      rfl
    intro k e hk ⟨k0, k1, k5, k7, k13, k14, k15, k19, k20, _⟩
    simp only [go_sem, Nat.reduceBEq, Nat.reduceAdd, Nat.reduceMul, Nat.reduceSub, Nat.reduceLeDiff, Int.reduceAdd, Int.reduceSub, Int.reduceMul, Int.reduceLE, Int.reduceLT, Int.reduceEq, Int.reduceNeg, Int.reduceToNat, Int.reduceTDiv, Int.reduceTMod, reduceIte, Nat.reduceEqDiff, Nat.reducePow, Int.reducePow, k0, k1, k5, k7, k13, k14, k15, k19, k20]
    (first | with_reducible refine condW_not ?_ ?_ | refine condW_split ?_ ?_) <;> intro h3 <;> simp only [go_sem, Nat.reduceBEq, Nat.reduceAdd, Nat.reduceMul, Nat.reduceSub, Nat.reduceLeDiff, Int.reduceAdd, Int.reduceSub, Int.reduceMul, Int.reduceLE, Int.reduceLT, Int.reduceEq, Int.reduceNeg, Int.reduceToNat, Int.reduceTDiv, Int.reduceTMod, reduceIte, Nat.reduceEqDiff, Nat.reducePow, Int.reducePow, k0, k1, k5, k7, k13, k14, k15, k19, k20, h3]
    · have hkW : k < W := by have := toProp h3; omega
      have hb : (beC W l[i]).take (k + 1) = (beC W l[i]).take k ++ [byteAt l[i] (W - 1 - k)] := by
        have hl1 : k < (beC W l[i]).length := by rw [beC_len]; exact hkW
        rw [List.take_succ_eq_append_getElem hl1]
        simp [beC, leN, leN_len, List.getElem_reverse]
      have s1 : IntKind.i64.wrap ((W : Int) - 1) = (W : Int) - 1 := wrap_i64 (by omega) (by omega)
      have s2 : IntKind.i64.wrap ((W : Int) - 1 - k) = (W : Int) - 1 - k := wrap_i64 (by omega) (by omega)
      have s3 : IntKind.i64.wrap (8 * ((W : Int) - 1 - k)) = 8 * ((W : Int) - 1 - k) := wrap_i64 (by omega) (by omega)
      have s4 : min (8 * ((W : Int) - 1 - k)).toNat 64 = 8 * (W - 1 - k) := by omega
      have hB := bl (l.take i) (by rw [List.length_take]; omega)
      have hT : ((beC W l[i]).take k).length ≤ 2 := by rw [List.length_take]; omega
      rw [s1, s2, s3, s4, byteI8]
      refine ⟨by omega, by omega, k + 1, by omega, by omega, ⟨[], by rw [hb]; simp [Nat.add_assoc]⟩, ?_, by rw [wrap_i64 (by omega) (by omega)]; rfl⟩
      rw [hb]
      simp [byteEl]
    · have hkW : k = W := by have := toNot h3; omega
      have ht : (beC W l[i]).take k = beC W l[i] := List.take_of_length_le (by rw [beC_len]; omega)
      rw [ht]
      have hcs := compB_succ W l i hlt
      refine ⟨i + 1, by omega, by omega, ⟨[], by rw [hcs]; simp⟩, by rw [hcs], by rw [wrap_i64 (by omega) (by omega)]; rfl⟩
  · have : i = l.length := by have := toNot h2; omega
    subst this
    rw [List.take_length]
end Go.Proofs.YtjmldlknegbimaaGreatDoor.Sx
