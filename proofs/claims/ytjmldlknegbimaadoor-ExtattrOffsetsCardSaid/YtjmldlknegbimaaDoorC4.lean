/- ExtattrOffsets on abstract data. -/
import Derived.Test.YtjmldlknegbimaaDoorD1
set_option linter.unusedVariables false
set_option linter.unusedSimpArgs false
namespace Go.Proofs.YtjmldlknegbimaaDoor.Sx
open Go Go.RowKit
variable {G : Gl}
theorem i64_or_nat (a b : Nat) (ha : a < 9223372036854775808) (hb : b < 9223372036854775808) : bits .or .i64 (a : Int) (b : Int) = ((a ||| b : Nat) : Int) := by
  have hx : a ||| b < 2 ^ 63 := Nat.or_lt_two_pow (by omega) (by omega)
  show IntKind.i64.wrap ((BitVec.ofInt 64 (a : Int) ||| BitVec.ofInt 64 (b : Int)).toNat : Int) = _
  rw [BitVec.toNat_or, ofInt_u64 a (by omega), ofInt_u64 b (by omega), wrap_i64 (by omega) (by omega)]
theorem or_step4 (acc : Nat) (b : UInt8) (k : Nat) (hk : k ≤ 3) (h : acc < 256 ^ k) : bits .or .i64 (acc : Int) (IntKind.i64.wrap ((b.toNat : Int) * 2 ^ (8 * k))) = ((acc + b.toNat * 256 ^ k : Nat) : Int) := by
  have hb := b.toNat_lt
  have e2 : (256 : Nat) ^ k = 2 ^ (8 * k) := by rw [Nat.pow_mul]
  have e3 : (2 : Nat) ^ (8 * k) ≤ 2 ^ 24 := Nat.pow_le_pow_right (by decide) (by omega)
  have e4 : b.toNat * 2 ^ (8 * k) < 9223372036854775808 := by
    have : b.toNat * 2 ^ (8 * k) ≤ 255 * 2 ^ 24 := Nat.mul_le_mul (by omega) e3
    omega
  rw [e2] at h ⊢
  rw [show ((b.toNat : Int) * 2 ^ (8 * k)) = ((b.toNat * 2 ^ (8 * k) : Nat) : Int) by simp, wrap_i64 (by omega) (by omega), i64_or_nat _ _ (by omega) e4]
  congr 1
  rw [Nat.or_comm, ← Nat.shiftLeft_eq, ← Nat.shiftLeft_add_eq_or_of_lt h]
  omega
theorem readN_four (s : List UInt8) (a : Int) (h0 : 0 ≤ a) (hs : a + 4 ≤ s.length) :
    readN (partOf s a 4) = (s[a.toNat]'(by omega)).toNat + (s[(a + 1).toNat]'(by omega)).toNat * 256 ^ 1 + (s[(a + 2).toNat]'(by omega)).toNat * 256 ^ 2 + (s[(a + 3).toNat]'(by omega)).toNat * 256 ^ 3 := by
  obtain ⟨n, rfl⟩ := Int.eq_ofNat_of_zero_le h0
  have e1 : ((n : Int) + 1).toNat = n + 1 := by omega
  have e2 : ((n : Int) + 2).toNat = n + 2 := by omega
  have e3 : ((n : Int) + 3).toNat = n + 3 := by omega
  simp only [e1, e2, e3, Int.toNat_natCast]
  simp only [partOf, Int.toNat_natCast, show (4 : Int).toNat = 4 from rfl]
  rw [List.drop_eq_getElem_cons (by omega), List.drop_eq_getElem_cons (by omega), List.drop_eq_getElem_cons (by omega), List.drop_eq_getElem_cons (by omega)]
  simp only [List.take_succ_cons, List.take_zero, readN, show n + 1 + 1 = n + 2 from rfl, show n + 2 + 1 = n + 3 from rfl]
  omega
theorem p_offnum (s : List UInt8) (a : Int) (H : List HO) (h0 : 0 ≤ a) (hs : a + 4 ≤ s.length) (hl : s.length < 2 ^ 40) : Fn Tryd.prog G 22 [.d (.int .i64 a), .ptr 0 0] (.box [.d (.str s)] :: H) (.d (.int .i64 (readN (partOf s a 4)))) (.box [.d (.str s)] :: H) := by
  have e1 : IntKind.i64.wrap (a + 1) = a + 1 := wrap_i64 (by omega) (by omega)
  have e2 : IntKind.i64.wrap (a + 2) = a + 2 := wrap_i64 (by omega) (by omega)
  have e3 : IntKind.i64.wrap (a + 3) = a + 3 := wrap_i64 (by omega) (by omega)
  refine Fn.of_body mo Tryd.func22 rfl (by kernel_rfl) (by kernel_rfl) (by simp [Tryd.ntmps22]) ?_
  simp only [go_sem, Nat.reduceBEq, Nat.reduceAdd, Nat.reduceMul, Nat.reduceSub, Nat.reduceLeDiff, Int.reduceAdd, Int.reduceSub, Int.reduceMul, Int.reduceLE, Int.reduceLT, Int.reduceEq, Int.reduceNeg, Int.reduceToNat, Int.reduceTDiv, Int.reduceTMod, reduceIte, Nat.reduceEqDiff, Nat.reducePow, Int.reducePow, Tryd.results22]
  simp only [go_sem, Nat.reduceBEq, Nat.reduceAdd, Nat.reduceMul, Nat.reduceSub, Nat.reduceLeDiff, Int.reduceAdd, Int.reduceSub, Int.reduceMul, Int.reduceLE, Int.reduceLT, Int.reduceEq, Int.reduceNeg, Int.reduceToNat, Int.reduceTDiv, Int.reduceTMod, reduceIte, Nat.reduceEqDiff, Nat.reducePow, Int.reducePow, e1, e2, e3]
  refine ⟨⟨by omega, by omega⟩, ⟨by omega, by omega⟩, ⟨by omega, by omega⟩, ⟨by omega, by omega⟩, by kernel_rfl, ?_⟩
  have q1 := or_step4 (s[a.toNat]'(by omega)).toNat (s[(a + 1).toNat]'(by omega)) 1 (by omega) (by have := (s[a.toNat]'(by omega)).toNat_lt; omega)
  have q2 := or_step4 ((s[a.toNat]'(by omega)).toNat + (s[(a + 1).toNat]'(by omega)).toNat * 256 ^ 1) (s[(a + 2).toNat]'(by omega)) 2 (by omega) (by have := (s[a.toNat]'(by omega)).toNat_lt; have := (s[(a + 1).toNat]'(by omega)).toNat_lt; omega)
  have q3 := or_step4 ((s[a.toNat]'(by omega)).toNat + (s[(a + 1).toNat]'(by omega)).toNat * 256 ^ 1 + (s[(a + 2).toNat]'(by omega)).toNat * 256 ^ 2) (s[(a + 3).toNat]'(by omega)) 3 (by omega)
    (by have := (s[a.toNat]'(by omega)).toNat_lt; have := (s[(a + 1).toNat]'(by omega)).toNat_lt; have := (s[(a + 2).toNat]'(by omega)).toNat_lt; omega)
  simp only [show min 8 64 = 8 * 1 from rfl, show min 16 64 = 8 * 2 from rfl, show min 24 64 = 8 * 3 from rfl, q1, q2, q3, readN_four s a h0 hs]

/-- Where an attribute lies in a space, and what stands at its head. -/
theorem at_facts (l : List Attr) (hv : validA l = true) (j : Nat) (hj : j < l.length) (loc : Int) (s : List UInt8)
    (hs : s = tagB 262 1 loc (leN 4 (encS l).o1 ++ leN 4 (encS l).o2 ++ (encS l).b) ++ (leN 4 (encS l).o1 ++ leN 4 (encS l).o2 ++ (encS l).b)) :
    24 + (encS (l.take j)).b.length + attrLen l[j] ≤ s.length ∧ (readN (partOf s (((24 + (encS (l.take j)).b.length : Nat) : Int)) 4) : Int) = l[j].ty ∧
    (readN (partOf s (((24 + (encS (l.take j)).b.length : Nat) : Int) + 12) 4) : Int) = l[j].data.length ∧ (readN (partOf s (((24 + (encS (l.take j)).b.length : Nat) : Int) + 8) 4) : Int) = attrLen l[j] ∧
    (encS (l.take (j + 1))).b.length = (encS (l.take j)).b.length + attrLen l[j] ∧ 16 ≤ attrLen l[j] ∧ attrLen l[j] < 2100 := by
  have hok := validA_ok l hv j hj
  have hlen := attrBytes_length l[j] hok
  have hok' := hok
  simp only [attrOk, Bool.and_eq_true, decide_eq_true_eq] at hok'
  have hl2 : attrLen l[j] < 2100 := by unfold attrLen; omega
  have hl1 : 16 ≤ attrLen l[j] := by unfold attrLen; omega
  have hb : (encS l).b = (encS (l.take j)).b ++ (attrBytes l[j] ++ ((l.drop (j + 1)).map attrBytes).flatten) := by
    rw [encS_b, encS_b]
    have hsplit : l = l.take j ++ l[j] :: l.drop (j + 1) := by rw [← List.drop_eq_getElem_cons hj, List.take_append_drop]
    have := congrArg (fun m : List Attr => (m.map attrBytes).flatten) hsplit
    simp only [List.map_append, List.map_cons, List.flatten_append, List.flatten_cons] at this
    exact this
  have hd24 : s.drop 24 = (encS l).b := by rw [hs]; rfl
  have hdrop : s.drop (24 + (encS (l.take j)).b.length) = attrBytes l[j] ++ ((l.drop (j + 1)).map attrBytes).flatten := by
    rw [← List.drop_drop, hd24, hb, List.drop_left]
  have hsl : s.length = 24 + (encS l).b.length := by
    rw [hs, List.length_append, tagB_len]
    simp only [List.length_append, leN_len]
    omega
  have hbl := congrArg List.length hb
  simp only [List.length_append, hlen] at hbl
  have part : ∀ a w : Int, 0 ≤ a → partOf s (((24 + (encS (l.take j)).b.length : Nat) : Int) + a) w = partOf (attrBytes l[j] ++ ((l.drop (j + 1)).map attrBytes).flatten) a w := fun a w ha => by
    rw [← hdrop, partOf_drop s _ a w ha]
  have q0 : partOf (attrBytes l[j] ++ ((l.drop (j + 1)).map attrBytes).flatten) 0 4 = leN 4 l[j].ty := rfl
  have q8 : partOf (attrBytes l[j] ++ ((l.drop (j + 1)).map attrBytes).flatten) 8 4 = leN 4 (attrLen l[j]) := rfl
  have q12 : partOf (attrBytes l[j] ++ ((l.drop (j + 1)).map attrBytes).flatten) 12 4 = leN 4 l[j].data.length := rfl
  refine ⟨by omega, ?_, ?_, ?_, ?_, hl1, hl2⟩
  · have := part 0 4 (by omega)
    rw [Int.add_zero] at this
    rw [this, q0]
    exact readN_leN4 _ (by omega) (by omega)
  · rw [part 12 4 (by omega), q12]
    exact readN_leN4 _ (by omega) (by omega)
  · rw [part 8 4 (by omega), q8]
    exact readN_leN4 _ (by omega) (by omega)
  · rw [encS_succ l j hj, encStep, List.length_append, hlen]
def ofK (i : Nat) (st : EncS) : Int := if i = 0 then st.o1 else st.o2
def leastK (i : Nat) : Int := if i = 0 then 2048 else 65536
theorem ofK_facts (l : List Attr) (hv : validA l = true) (i : Nat) (hi : i < 2) (loc : Int) (s : List UInt8)
    (hs : s = tagB 262 1 loc (leN 4 (encS l).o1 ++ leN 4 (encS l).o2 ++ (encS l).b) ++ (leN 4 (encS l).o1 ++ leN 4 (encS l).o2 ++ (encS l).b)) :
    (readN (partOf s (16 + 4 * (i : Int)) 4) : Int) = ofK i (encS l) := by
  have hk := encS_inv l hv l.length (Nat.le_refl _)
  rw [List.take_length] at hk
  have hlen := validA_len l hv
  obtain ⟨k1, k2, k3⟩ := hk
  match i, hi with
  | 0, _ =>
    have : partOf s 16 4 = leN 4 (encS l).o1 := by rw [hs]; rfl
    show (readN (partOf s 16 4) : Int) = (encS l).o1
    rw [this]
    exact readN_leN4 _ (by omega) (by omega)
  | 1, _ =>
    have : partOf s 20 4 = leN 4 (encS l).o2 := by rw [hs]; rfl
    show (readN (partOf s 20 4) : Int) = (encS l).o2
    rw [this]
    exact readN_leN4 _ (by omega) (by omega)
theorem ofK_step (l : List Attr) (j : Nat) (hj : j < l.length) (i : Nat) (hi : i < 2) :
    ofK i (encS (l.take (j + 1))) = if leastK i ≤ l[j].ty ∧ ofK i (encS (l.take j)) = 4294967295 then ((24 + (encS (l.take j)).b.length : Nat) : Int) else ofK i (encS (l.take j)) := by
  rw [encS_succ l j hj]
  match i, hi with
  | 0, _ => rfl
  | 1, _ => rfl
theorem l_offsets (l : List Attr) (n : Int) (hl : l.length < 2 ^ 63) : PF Tryd.prog G 5 [.sl .any (l.map attrEl), .int .u32 n] (.bool true) := by
  refine PF.of_body mo Tryd.func5 rfl (by kernel_rfl) (by kernel_rfl) (by simp [Tryd.ntmps5]) ?_
  simp only [go_sem, Nat.reduceBEq, Nat.reduceAdd, Nat.reduceMul, Nat.reduceSub, Nat.reduceLeDiff, Int.reduceAdd, Int.reduceSub, Int.reduceMul, Int.reduceLE, Int.reduceLT, Int.reduceEq, Int.reduceNeg, Int.reduceToNat, Int.reduceTDiv, Int.reduceTMod, reduceIte, Nat.reduceEqDiff, Nat.reducePow, Int.reducePow, Tryd.results5]
  refine callK_pf (p_awake) (by first | (simp only [go_sem, Nat.reduceBEq, Nat.reduceAdd, Nat.reduceMul, Nat.reduceSub, Nat.reduceLeDiff, Int.reduceAdd, Int.reduceSub, Int.reduceMul, Int.reduceLE, Int.reduceLT, Int.reduceEq, Int.reduceNeg, Int.reduceToNat, Int.reduceTDiv, Int.reduceTMod, reduceIte, Nat.reduceEqDiff, Nat.reducePow, Int.reducePow]; done) | (simp only [go_sem, Nat.reduceBEq, Nat.reduceAdd, Nat.reduceMul, Nat.reduceSub, Nat.reduceLeDiff, Int.reduceAdd, Int.reduceSub, Int.reduceMul, Int.reduceLE, Int.reduceLT, Int.reduceEq, Int.reduceNeg, Int.reduceToNat, Int.reduceTDiv, Int.reduceTMod, reduceIte, Nat.reduceEqDiff, Nat.reducePow, Int.reducePow]; rfl) | rfl) ?_; simp only [go_sem, Nat.reduceBEq, Nat.reduceAdd, Nat.reduceMul, Nat.reduceSub, Nat.reduceLeDiff, Int.reduceAdd, Int.reduceSub, Int.reduceMul, Int.reduceLE, Int.reduceLT, Int.reduceEq, Int.reduceNeg, Int.reduceToNat, Int.reduceTDiv, Int.reduceTMod, reduceIte, Nat.reduceEqDiff, Nat.reducePow, Int.reducePow]
  refine callK_pf (p_few l hl) (by first | (simp only [go_sem, Nat.reduceBEq, Nat.reduceAdd, Nat.reduceMul, Nat.reduceSub, Nat.reduceLeDiff, Int.reduceAdd, Int.reduceSub, Int.reduceMul, Int.reduceLE, Int.reduceLT, Int.reduceEq, Int.reduceNeg, Int.reduceToNat, Int.reduceTDiv, Int.reduceTMod, reduceIte, Nat.reduceEqDiff, Nat.reducePow, Int.reducePow]; done) | (simp only [go_sem, Nat.reduceBEq, Nat.reduceAdd, Nat.reduceMul, Nat.reduceSub, Nat.reduceLeDiff, Int.reduceAdd, Int.reduceSub, Int.reduceMul, Int.reduceLE, Int.reduceLT, Int.reduceEq, Int.reduceNeg, Int.reduceToNat, Int.reduceTDiv, Int.reduceTMod, reduceIte, Nat.reduceEqDiff, Nat.reducePow, Int.reducePow]; rfl) | rfl) ?_; simp only [go_sem, Nat.reduceBEq, Nat.reduceAdd, Nat.reduceMul, Nat.reduceSub, Nat.reduceLeDiff, Int.reduceAdd, Int.reduceSub, Int.reduceMul, Int.reduceLE, Int.reduceLT, Int.reduceEq, Int.reduceNeg, Int.reduceToNat, Int.reduceTDiv, Int.reduceTMod, reduceIte, Nat.reduceEqDiff, Nat.reducePow, Int.reducePow]
  (first | with_reducible refine gO_not ?_ ?_ | with_reducible refine gT_not ?_ ?_ | refine gO_split ?_ ?_ | refine gT_split ?_ ?_) <;> intro h1 <;> simp only [go_sem, Nat.reduceBEq, Nat.reduceAdd, Nat.reduceMul, Nat.reduceSub, Nat.reduceLeDiff, Int.reduceAdd, Int.reduceSub, Int.reduceMul, Int.reduceLE, Int.reduceLT, Int.reduceEq, Int.reduceNeg, Int.reduceToNat, Int.reduceTDiv, Int.reduceTMod, reduceIte, Nat.reduceEqDiff, Nat.reducePow, Int.reducePow, h1]
  · (first | with_reducible refine condW_not ?_ ?_ | refine condW_split ?_ ?_) <;> intro h2 <;> simp only [go_sem, Nat.reduceBEq, Nat.reduceAdd, Nat.reduceMul, Nat.reduceSub, Nat.reduceLeDiff, Int.reduceAdd, Int.reduceSub, Int.reduceMul, Int.reduceLE, Int.reduceLT, Int.reduceEq, Int.reduceNeg, Int.reduceToNat, Int.reduceTDiv, Int.reduceTMod, reduceIte, Nat.reduceEqDiff, Nat.reducePow, Int.reducePow, h2]
    · obtain ⟨b1, b2⟩ := fewA_bounds h1
      have p1 := p_xencode (G := G) l (IntKind.i64.wrap n) (by omega) (fun a ha => by have := b2 a ha; omega)
      rcases enc_dec l (IntKind.i64.wrap n) with ⟨e, he, hse⟩ | ⟨s, hse, hd, h4, h2048, hnil, hform⟩
      · rw [hse] at p1
        refine callK_pf (p1) (by first | (simp only [go_sem, Nat.reduceBEq, Nat.reduceAdd, Nat.reduceMul, Nat.reduceSub, Nat.reduceLeDiff, Int.reduceAdd, Int.reduceSub, Int.reduceMul, Int.reduceLE, Int.reduceLT, Int.reduceEq, Int.reduceNeg, Int.reduceToNat, Int.reduceTDiv, Int.reduceTMod, reduceIte, Nat.reduceEqDiff, Nat.reducePow, Int.reducePow]; done) | (simp only [go_sem, Nat.reduceBEq, Nat.reduceAdd, Nat.reduceMul, Nat.reduceSub, Nat.reduceLeDiff, Int.reduceAdd, Int.reduceSub, Int.reduceMul, Int.reduceLE, Int.reduceLT, Int.reduceEq, Int.reduceNeg, Int.reduceToNat, Int.reduceTDiv, Int.reduceTMod, reduceIte, Nat.reduceEqDiff, Nat.reducePow, Int.reducePow]; rfl) | rfl) ?_; simp only [go_sem, Nat.reduceBEq, Nat.reduceAdd, Nat.reduceMul, Nat.reduceSub, Nat.reduceLeDiff, Int.reduceAdd, Int.reduceSub, Int.reduceMul, Int.reduceLE, Int.reduceLT, Int.reduceEq, Int.reduceNeg, Int.reduceToNat, Int.reduceTDiv, Int.reduceTMod, reduceIte, Nat.reduceEqDiff, Nat.reducePow, Int.reducePow]
        have : decide (e = 0) = false := by simpa using he
        simp only [go_sem, Nat.reduceBEq, Nat.reduceAdd, Nat.reduceMul, Nat.reduceSub, Nat.reduceLeDiff, Int.reduceAdd, Int.reduceSub, Int.reduceMul, Int.reduceLE, Int.reduceLT, Int.reduceEq, Int.reduceNeg, Int.reduceToNat, Int.reduceTDiv, Int.reduceTMod, reduceIte, Nat.reduceEqDiff, Nat.reducePow, Int.reducePow, this]
        skip
      · rw [hse] at p1
        refine callK_pf (p1) (by first | (simp only [go_sem, Nat.reduceBEq, Nat.reduceAdd, Nat.reduceMul, Nat.reduceSub, Nat.reduceLeDiff, Int.reduceAdd, Int.reduceSub, Int.reduceMul, Int.reduceLE, Int.reduceLT, Int.reduceEq, Int.reduceNeg, Int.reduceToNat, Int.reduceTDiv, Int.reduceTMod, reduceIte, Nat.reduceEqDiff, Nat.reducePow, Int.reducePow]; done) | (simp only [go_sem, Nat.reduceBEq, Nat.reduceAdd, Nat.reduceMul, Nat.reduceSub, Nat.reduceLeDiff, Int.reduceAdd, Int.reduceSub, Int.reduceMul, Int.reduceLE, Int.reduceLT, Int.reduceEq, Int.reduceNeg, Int.reduceToNat, Int.reduceTDiv, Int.reduceTMod, reduceIte, Nat.reduceEqDiff, Nat.reducePow, Int.reducePow]; rfl) | rfl) ?_; simp only [go_sem, Nat.reduceBEq, Nat.reduceAdd, Nat.reduceMul, Nat.reduceSub, Nat.reduceLeDiff, Int.reduceAdd, Int.reduceSub, Int.reduceMul, Int.reduceLE, Int.reduceLT, Int.reduceEq, Int.reduceNeg, Int.reduceToNat, Int.reduceTDiv, Int.reduceTMod, reduceIte, Nat.reduceEqDiff, Nat.reducePow, Int.reducePow]
        have hne : l ≠ [] := by rintro rfl; simp at h2
        obtain ⟨hv, hs⟩ := hform hne
        have f0 := at_facts l hv 0 (by have := toNot h2; omega) _ s hs
        have hsl : s.length = 24 + (encS l).b.length := by
          rw [hs, List.length_append, tagB_len]
          simp only [List.length_append, leN_len]
          omega
        have d24 : decide ((s.length : Int) < 24) = false := by simp; omega
        simp only [go_sem, Nat.reduceBEq, Nat.reduceAdd, Nat.reduceMul, Nat.reduceSub, Nat.reduceLeDiff, Int.reduceAdd, Int.reduceSub, Int.reduceMul, Int.reduceLE, Int.reduceLT, Int.reduceEq, Int.reduceNeg, Int.reduceToNat, Int.reduceTDiv, Int.reduceTMod, reduceIte, Nat.reduceEqDiff, Nat.reducePow, Int.reducePow, d24]
        refine wpc_loop Nat (fun i => [(0, .d (.sl .any (l.map attrEl))), (5, .ptr 0 0), (7, .clo 22 [.ptr 0 0]), (45, .d (.sl .full [[.int .i64 2048], [.int .i64 65536]])), (46, .d (.int .i64 2)), (47, .d (.int .i64 i))]) (fun i => [.box [.d (.str s)]]) (fun i => i ≤ 2) (fun i => 2 - i) 0
          (.refl _ _) (fun i hi => ⟨Nat.zero_le _, rfl, rfl⟩) (by omega) rfl ?_ ?_
        · simp only [go_sem, Nat.reduceBEq, Nat.reduceAdd, Nat.reduceMul, Nat.reduceSub, Nat.reduceLeDiff, Int.reduceAdd, Int.reduceSub, Int.reduceMul, Int.reduceLE, Int.reduceLT, Int.reduceEq, Int.reduceNeg, Int.reduceToNat, Int.reduceTDiv, Int.reduceTMod, reduceIte, Nat.reduceEqDiff, Nat.reducePow, Int.reducePow, Int.natCast_zero]
          rfl
        intro i e hi ⟨g0, g5, g7, g45, g46, g47, _⟩
        simp only [go_sem, Nat.reduceBEq, Nat.reduceAdd, Nat.reduceMul, Nat.reduceSub, Nat.reduceLeDiff, Int.reduceAdd, Int.reduceSub, Int.reduceMul, Int.reduceLE, Int.reduceLT, Int.reduceEq, Int.reduceNeg, Int.reduceToNat, Int.reduceTDiv, Int.reduceTMod, reduceIte, Nat.reduceEqDiff, Nat.reducePow, Int.reducePow, g0, g5, g7, g45, g46, g47]
        (first | with_reducible refine condW_not ?_ ?_ | refine condW_split ?_ ?_) <;> intro h3 <;> simp only [go_sem, Nat.reduceBEq, Nat.reduceAdd, Nat.reduceMul, Nat.reduceSub, Nat.reduceLeDiff, Int.reduceAdd, Int.reduceSub, Int.reduceMul, Int.reduceLE, Int.reduceLT, Int.reduceEq, Int.reduceNeg, Int.reduceToNat, Int.reduceTDiv, Int.reduceTMod, reduceIte, Nat.reduceEqDiff, Nat.reducePow, Int.reducePow, g0, g5, g7, g45, g46, g47, h3]
        · have hi2 : i < 2 := by have := toProp h3; omega
          refine ⟨⟨by omega, hi2⟩, ?_⟩
          have hel : ∀ h, ([[DV.int .i64 2048], [DV.int .i64 65536]] : List (List DV))[i]'h = [DV.int .i64 (leastK i)] := fun h => by
            match i, hi2 with
            | 0, _ => rfl
            | 1, _ => rfl
          simp only [go_sem, Nat.reduceBEq, Nat.reduceAdd, Nat.reduceMul, Nat.reduceSub, Nat.reduceLeDiff, Int.reduceAdd, Int.reduceSub, Int.reduceMul, Int.reduceLE, Int.reduceLT, Int.reduceEq, Int.reduceNeg, Int.reduceToNat, Int.reduceTDiv, Int.reduceTMod, reduceIte, Nat.reduceEqDiff, Nat.reducePow, Int.reducePow, g0, g5, g7, g45, g46, g47, hel]
          refine wpc_loop Nat (fun j => [(0, .d (.sl .any (l.map attrEl))), (5, .ptr 0 0), (7, .clo 22 [.ptr 0 0]), (8, .d (.int .i64 i)), (9, .d (.int .i64 (leastK i))), (10, .d (.int .i64 (ofK i (encS (l.take j))))), (11, .d (.int .i64 ((24 + (encS (l.take j)).b.length : Nat) : Int))), (45, .d (.sl .full [[.int .i64 2048], [.int .i64 65536]])), (46, .d (.int .i64 2)), (47, .d (.int .i64 i)), (52, .d (.sl .any (l.map attrEl))), (53, .d (.int .i64 l.length)), (54, .d (.int .i64 j))]) (fun j => [.box [.d (.str s)]]) (fun j => j ≤ l.length) (fun j => l.length - j) 0
            (.refl _ _) (fun j hj => ⟨Nat.zero_le _, rfl, rfl⟩) (Nat.zero_le _) rfl ?_ ?_
          · simp only [go_sem, Nat.reduceBEq, Nat.reduceAdd, Nat.reduceMul, Nat.reduceSub, Nat.reduceLeDiff, Int.reduceAdd, Int.reduceSub, Int.reduceMul, Int.reduceLE, Int.reduceLT, Int.reduceEq, Int.reduceNeg, Int.reduceToNat, Int.reduceTDiv, Int.reduceTMod, reduceIte, Nat.reduceEqDiff, Nat.reducePow, Int.reducePow, g0, g5, g7, g45, g46, g47, hel, Int.natCast_zero]
            match i, hi2 with
            | 0, _ => exact ⟨rfl, rfl⟩
            | 1, _ => exact ⟨rfl, rfl⟩
          intro j e hj ⟨k0, k5, k7, k8, k9, k10, k11, k45, k46, k47, k52, k53, k54, _⟩
          simp only [go_sem, Nat.reduceBEq, Nat.reduceAdd, Nat.reduceMul, Nat.reduceSub, Nat.reduceLeDiff, Int.reduceAdd, Int.reduceSub, Int.reduceMul, Int.reduceLE, Int.reduceLT, Int.reduceEq, Int.reduceNeg, Int.reduceToNat, Int.reduceTDiv, Int.reduceTMod, reduceIte, Nat.reduceEqDiff, Nat.reducePow, Int.reducePow, k0, k5, k7, k8, k9, k10, k11, k45, k46, k47, k52, k53, k54]
          (first | with_reducible refine condW_not ?_ ?_ | refine condW_split ?_ ?_) <;> intro h5 <;> simp only [go_sem, Nat.reduceBEq, Nat.reduceAdd, Nat.reduceMul, Nat.reduceSub, Nat.reduceLeDiff, Int.reduceAdd, Int.reduceSub, Int.reduceMul, Int.reduceLE, Int.reduceLT, Int.reduceEq, Int.reduceNeg, Int.reduceToNat, Int.reduceTDiv, Int.reduceTMod, reduceIte, Nat.reduceEqDiff, Nat.reducePow, Int.reducePow, k0, k5, k7, k8, k9, k10, k11, k45, k46, k47, k52, k53, k54, h5]
          · have hjl : j < l.length := by have := toProp h5; omega
            obtain ⟨a1, a2, a3, a4, a5, a6, a7⟩ := at_facts l hv j hjl _ s hs
            have w16 : IntKind.i64.wrap (((24 + (encS (l.take j)).b.length : Nat) : Int) + 16) = ((24 + (encS (l.take j)).b.length : Nat) : Int) + 16 := wrap_i64 (by omega) (by omega)
            have w12 : IntKind.i64.wrap (((24 + (encS (l.take j)).b.length : Nat) : Int) + 12) = ((24 + (encS (l.take j)).b.length : Nat) : Int) + 12 := wrap_i64 (by omega) (by omega)
            have w8 : IntKind.i64.wrap (((24 + (encS (l.take j)).b.length : Nat) : Int) + 8) = ((24 + (encS (l.take j)).b.length : Nat) : Int) + 8 := wrap_i64 (by omega) (by omega)
            have d16 : decide ((s.length : Int) < ((24 + (encS (l.take j)).b.length : Nat) : Int) + 16) = false := by simp; omega
            have d8 : decide ((attrLen l[j] : Int) < 16) = false := by simp; omega
            refine ⟨⟨by omega, by omega⟩, ?_⟩
            simp only [go_sem, Nat.reduceBEq, Nat.reduceAdd, Nat.reduceMul, Nat.reduceSub, Nat.reduceLeDiff, Int.reduceAdd, Int.reduceSub, Int.reduceMul, Int.reduceLE, Int.reduceLT, Int.reduceEq, Int.reduceNeg, Int.reduceToNat, Int.reduceTDiv, Int.reduceTMod, reduceIte, Nat.reduceEqDiff, Nat.reducePow, Int.reducePow, k0, k5, k7, k8, k9, k10, k11, k45, k46, k47, k52, k53, k54, w16, w12, w8, d16, a2, a3, a4, d8, decide_true]
            refine callKT_clr (p_offnum s ((24 + (encS (l.take j)).b.length : Nat) : Int) _ (by omega) (by omega) (by omega)) (by first | (simp only [go_sem, Nat.reduceBEq, Nat.reduceAdd, Nat.reduceMul, Nat.reduceSub, Nat.reduceLeDiff, Int.reduceAdd, Int.reduceSub, Int.reduceMul, Int.reduceLE, Int.reduceLT, Int.reduceEq, Int.reduceNeg, Int.reduceToNat, Int.reduceTDiv, Int.reduceTMod, reduceIte, Nat.reduceEqDiff, Nat.reducePow, Int.reducePow, k0, k5, k7, k8, k9, k10, k11, k45, k46, k47, k52, k53, k54, w16, w12, w8, d16, a2, a3, a4, d8, decide_true]; done) | (simp only [go_sem, Nat.reduceBEq, Nat.reduceAdd, Nat.reduceMul, Nat.reduceSub, Nat.reduceLeDiff, Int.reduceAdd, Int.reduceSub, Int.reduceMul, Int.reduceLE, Int.reduceLT, Int.reduceEq, Int.reduceNeg, Int.reduceToNat, Int.reduceTDiv, Int.reduceTMod, reduceIte, Nat.reduceEqDiff, Nat.reducePow, Int.reducePow, k0, k5, k7, k8, k9, k10, k11, k45, k46, k47, k52, k53, k54, w16, w12, w8, d16, a2, a3, a4, d8, decide_true]; rfl) | rfl) ?_; simp only [go_sem, Nat.reduceBEq, Nat.reduceAdd, Nat.reduceMul, Nat.reduceSub, Nat.reduceLeDiff, Int.reduceAdd, Int.reduceSub, Int.reduceMul, Int.reduceLE, Int.reduceLT, Int.reduceEq, Int.reduceNeg, Int.reduceToNat, Int.reduceTDiv, Int.reduceTMod, reduceIte, Nat.reduceEqDiff, Nat.reducePow, Int.reducePow, k0, k5, k7, k8, k9, k10, k11, k45, k46, k47, k52, k53, k54, w16, w12, w8, d16, a2, a3, a4, d8, decide_true]
            refine callKT_clr (p_offnum s (((24 + (encS (l.take j)).b.length : Nat) : Int) + 12) _ (by omega) (by omega) (by omega)) (by first | (simp only [go_sem, Nat.reduceBEq, Nat.reduceAdd, Nat.reduceMul, Nat.reduceSub, Nat.reduceLeDiff, Int.reduceAdd, Int.reduceSub, Int.reduceMul, Int.reduceLE, Int.reduceLT, Int.reduceEq, Int.reduceNeg, Int.reduceToNat, Int.reduceTDiv, Int.reduceTMod, reduceIte, Nat.reduceEqDiff, Nat.reducePow, Int.reducePow, k0, k5, k7, k8, k9, k10, k11, k45, k46, k47, k52, k53, k54, w16, w12, w8, d16, a2, a3, a4, d8, decide_true]; done) | (simp only [go_sem, Nat.reduceBEq, Nat.reduceAdd, Nat.reduceMul, Nat.reduceSub, Nat.reduceLeDiff, Int.reduceAdd, Int.reduceSub, Int.reduceMul, Int.reduceLE, Int.reduceLT, Int.reduceEq, Int.reduceNeg, Int.reduceToNat, Int.reduceTDiv, Int.reduceTMod, reduceIte, Nat.reduceEqDiff, Nat.reducePow, Int.reducePow, k0, k5, k7, k8, k9, k10, k11, k45, k46, k47, k52, k53, k54, w16, w12, w8, d16, a2, a3, a4, d8, decide_true]; rfl) | rfl) ?_; simp only [go_sem, Nat.reduceBEq, Nat.reduceAdd, Nat.reduceMul, Nat.reduceSub, Nat.reduceLeDiff, Int.reduceAdd, Int.reduceSub, Int.reduceMul, Int.reduceLE, Int.reduceLT, Int.reduceEq, Int.reduceNeg, Int.reduceToNat, Int.reduceTDiv, Int.reduceTMod, reduceIte, Nat.reduceEqDiff, Nat.reducePow, Int.reducePow, k0, k5, k7, k8, k9, k10, k11, k45, k46, k47, k52, k53, k54, w16, w12, w8, d16, a2, a3, a4, d8, decide_true]
            refine callKT_clr (p_offnum s (((24 + (encS (l.take j)).b.length : Nat) : Int) + 8) _ (by omega) (by omega) (by omega)) (by first | (simp only [go_sem, Nat.reduceBEq, Nat.reduceAdd, Nat.reduceMul, Nat.reduceSub, Nat.reduceLeDiff, Int.reduceAdd, Int.reduceSub, Int.reduceMul, Int.reduceLE, Int.reduceLT, Int.reduceEq, Int.reduceNeg, Int.reduceToNat, Int.reduceTDiv, Int.reduceTMod, reduceIte, Nat.reduceEqDiff, Nat.reducePow, Int.reducePow, k0, k5, k7, k8, k9, k10, k11, k45, k46, k47, k52, k53, k54, w16, w12, w8, d16, a2, a3, a4, d8, decide_true]; done) | (simp only [go_sem, Nat.reduceBEq, Nat.reduceAdd, Nat.reduceMul, Nat.reduceSub, Nat.reduceLeDiff, Int.reduceAdd, Int.reduceSub, Int.reduceMul, Int.reduceLE, Int.reduceLT, Int.reduceEq, Int.reduceNeg, Int.reduceToNat, Int.reduceTDiv, Int.reduceTMod, reduceIte, Nat.reduceEqDiff, Nat.reducePow, Int.reducePow, k0, k5, k7, k8, k9, k10, k11, k45, k46, k47, k52, k53, k54, w16, w12, w8, d16, a2, a3, a4, d8, decide_true]; rfl) | rfl) ?_; simp only [go_sem, Nat.reduceBEq, Nat.reduceAdd, Nat.reduceMul, Nat.reduceSub, Nat.reduceLeDiff, Int.reduceAdd, Int.reduceSub, Int.reduceMul, Int.reduceLE, Int.reduceLT, Int.reduceEq, Int.reduceNeg, Int.reduceToNat, Int.reduceTDiv, Int.reduceTMod, reduceIte, Nat.reduceEqDiff, Nat.reducePow, Int.reducePow, k0, k5, k7, k8, k9, k10, k11, k45, k46, k47, k52, k53, k54, w16, w12, w8, d16, a2, a3, a4, d8, decide_true]
            refine ⟨by kernel_rfl, ?_⟩
            have es := ofK_step l j hjl i hi2
            have wN : IntKind.i64.wrap (((24 + (encS (l.take j)).b.length : Nat) : Int) + (attrLen l[j] : Int)) = ((24 + (encS (l.take (j + 1))).b.length : Nat) : Int) := by rw [wrap_i64 (by omega) (by omega)]; omega
            (first | with_reducible refine gO_not ?_ ?_ | with_reducible refine gT_not ?_ ?_ | refine gO_split ?_ ?_ | refine gT_split ?_ ?_) <;> intro c1 <;> simp only [go_sem, Nat.reduceBEq, Nat.reduceAdd, Nat.reduceMul, Nat.reduceSub, Nat.reduceLeDiff, Int.reduceAdd, Int.reduceSub, Int.reduceMul, Int.reduceLE, Int.reduceLT, Int.reduceEq, Int.reduceNeg, Int.reduceToNat, Int.reduceTDiv, Int.reduceTMod, reduceIte, Nat.reduceEqDiff, Nat.reducePow, Int.reducePow, k0, k5, k7, k8, k9, k10, k11, k45, k46, k47, k52, k53, k54, w16, w12, w8, d16, a2, a3, a4, d8, decide_true, wN, c1]
            · (first | with_reducible refine condW_not ?_ ?_ | refine condW_split ?_ ?_) <;> intro c2 <;> simp only [go_sem, Nat.reduceBEq, Nat.reduceAdd, Nat.reduceMul, Nat.reduceSub, Nat.reduceLeDiff, Int.reduceAdd, Int.reduceSub, Int.reduceMul, Int.reduceLE, Int.reduceLT, Int.reduceEq, Int.reduceNeg, Int.reduceToNat, Int.reduceTDiv, Int.reduceTMod, reduceIte, Nat.reduceEqDiff, Nat.reducePow, Int.reducePow, k0, k5, k7, k8, k9, k10, k11, k45, k46, k47, k52, k53, k54, w16, w12, w8, d16, a2, a3, a4, d8, decide_true, wN, c2]
              · refine callK_clo (p_offnum s (((24 + (encS (l.take j)).b.length : Nat) : Int) + 8) _ (by omega) (by omega) (by omega)) (by first | (simp only [go_sem, Nat.reduceBEq, Nat.reduceAdd, Nat.reduceMul, Nat.reduceSub, Nat.reduceLeDiff, Int.reduceAdd, Int.reduceSub, Int.reduceMul, Int.reduceLE, Int.reduceLT, Int.reduceEq, Int.reduceNeg, Int.reduceToNat, Int.reduceTDiv, Int.reduceTMod, reduceIte, Nat.reduceEqDiff, Nat.reducePow, Int.reducePow, k0, k5, k7, k8, k9, k10, k11, k45, k46, k47, k52, k53, k54, w16, w12, w8, d16, a2, a3, a4, d8, decide_true, wN]; done) | (simp only [go_sem, Nat.reduceBEq, Nat.reduceAdd, Nat.reduceMul, Nat.reduceSub, Nat.reduceLeDiff, Int.reduceAdd, Int.reduceSub, Int.reduceMul, Int.reduceLE, Int.reduceLT, Int.reduceEq, Int.reduceNeg, Int.reduceToNat, Int.reduceTDiv, Int.reduceTMod, reduceIte, Nat.reduceEqDiff, Nat.reducePow, Int.reducePow, k0, k5, k7, k8, k9, k10, k11, k45, k46, k47, k52, k53, k54, w16, w12, w8, d16, a2, a3, a4, d8, decide_true, wN]; rfl) | rfl) ?_; simp only [go_sem, Nat.reduceBEq, Nat.reduceAdd, Nat.reduceMul, Nat.reduceSub, Nat.reduceLeDiff, Int.reduceAdd, Int.reduceSub, Int.reduceMul, Int.reduceLE, Int.reduceLT, Int.reduceEq, Int.reduceNeg, Int.reduceToNat, Int.reduceTDiv, Int.reduceTMod, reduceIte, Nat.reduceEqDiff, Nat.reducePow, Int.reducePow, k0, k5, k7, k8, k9, k10, k11, k45, k46, k47, k52, k53, k54, w16, w12, w8, d16, a2, a3, a4, d8, decide_true, wN]
                exact ⟨j + 1, by omega, by omega, ⟨_, rfl⟩, by rw [es, if_pos ⟨toProp c1, toProp c2⟩], rfl, by rw [wrap_i64 (by omega) (by omega)]; rfl⟩
              · refine callK_clo (p_offnum s (((24 + (encS (l.take j)).b.length : Nat) : Int) + 8) _ (by omega) (by omega) (by omega)) (by first | (simp only [go_sem, Nat.reduceBEq, Nat.reduceAdd, Nat.reduceMul, Nat.reduceSub, Nat.reduceLeDiff, Int.reduceAdd, Int.reduceSub, Int.reduceMul, Int.reduceLE, Int.reduceLT, Int.reduceEq, Int.reduceNeg, Int.reduceToNat, Int.reduceTDiv, Int.reduceTMod, reduceIte, Nat.reduceEqDiff, Nat.reducePow, Int.reducePow, k0, k5, k7, k8, k9, k10, k11, k45, k46, k47, k52, k53, k54, w16, w12, w8, d16, a2, a3, a4, d8, decide_true, wN]; done) | (simp only [go_sem, Nat.reduceBEq, Nat.reduceAdd, Nat.reduceMul, Nat.reduceSub, Nat.reduceLeDiff, Int.reduceAdd, Int.reduceSub, Int.reduceMul, Int.reduceLE, Int.reduceLT, Int.reduceEq, Int.reduceNeg, Int.reduceToNat, Int.reduceTDiv, Int.reduceTMod, reduceIte, Nat.reduceEqDiff, Nat.reducePow, Int.reducePow, k0, k5, k7, k8, k9, k10, k11, k45, k46, k47, k52, k53, k54, w16, w12, w8, d16, a2, a3, a4, d8, decide_true, wN]; rfl) | rfl) ?_; simp only [go_sem, Nat.reduceBEq, Nat.reduceAdd, Nat.reduceMul, Nat.reduceSub, Nat.reduceLeDiff, Int.reduceAdd, Int.reduceSub, Int.reduceMul, Int.reduceLE, Int.reduceLT, Int.reduceEq, Int.reduceNeg, Int.reduceToNat, Int.reduceTDiv, Int.reduceTMod, reduceIte, Nat.reduceEqDiff, Nat.reducePow, Int.reducePow, k0, k5, k7, k8, k9, k10, k11, k45, k46, k47, k52, k53, k54, w16, w12, w8, d16, a2, a3, a4, d8, decide_true, wN]
                exact ⟨j + 1, by omega, by omega, ⟨_, rfl⟩, by rw [es, if_neg (fun h => toNot c2 h.2)], rfl, by rw [wrap_i64 (by omega) (by omega)]; rfl⟩
            · refine callK_clo (p_offnum s (((24 + (encS (l.take j)).b.length : Nat) : Int) + 8) _ (by omega) (by omega) (by omega)) (by first | (simp only [go_sem, Nat.reduceBEq, Nat.reduceAdd, Nat.reduceMul, Nat.reduceSub, Nat.reduceLeDiff, Int.reduceAdd, Int.reduceSub, Int.reduceMul, Int.reduceLE, Int.reduceLT, Int.reduceEq, Int.reduceNeg, Int.reduceToNat, Int.reduceTDiv, Int.reduceTMod, reduceIte, Nat.reduceEqDiff, Nat.reducePow, Int.reducePow, k0, k5, k7, k8, k9, k10, k11, k45, k46, k47, k52, k53, k54, w16, w12, w8, d16, a2, a3, a4, d8, decide_true, wN]; done) | (simp only [go_sem, Nat.reduceBEq, Nat.reduceAdd, Nat.reduceMul, Nat.reduceSub, Nat.reduceLeDiff, Int.reduceAdd, Int.reduceSub, Int.reduceMul, Int.reduceLE, Int.reduceLT, Int.reduceEq, Int.reduceNeg, Int.reduceToNat, Int.reduceTDiv, Int.reduceTMod, reduceIte, Nat.reduceEqDiff, Nat.reducePow, Int.reducePow, k0, k5, k7, k8, k9, k10, k11, k45, k46, k47, k52, k53, k54, w16, w12, w8, d16, a2, a3, a4, d8, decide_true, wN]; rfl) | rfl) ?_; simp only [go_sem, Nat.reduceBEq, Nat.reduceAdd, Nat.reduceMul, Nat.reduceSub, Nat.reduceLeDiff, Int.reduceAdd, Int.reduceSub, Int.reduceMul, Int.reduceLE, Int.reduceLT, Int.reduceEq, Int.reduceNeg, Int.reduceToNat, Int.reduceTDiv, Int.reduceTMod, reduceIte, Nat.reduceEqDiff, Nat.reducePow, Int.reducePow, k0, k5, k7, k8, k9, k10, k11, k45, k46, k47, k52, k53, k54, w16, w12, w8, d16, a2, a3, a4, d8, decide_true, wN]
              exact ⟨j + 1, by omega, by omega, ⟨_, rfl⟩, by rw [es, if_neg (fun h => toNot c1 h.1)], rfl, by rw [wrap_i64 (by omega) (by omega)]; rfl⟩
          · have hjl : j = l.length := by have := toNot h5; omega
            subst hjl
            have hz := ofK_facts l hv i hi2 _ s hs
            have v1 : IntKind.i64.wrap (4 * (i : Int)) = 4 * (i : Int) := wrap_i64 (by omega) (by omega)
            have v2 : IntKind.i64.wrap (16 + 4 * (i : Int)) = 16 + 4 * (i : Int) := wrap_i64 (by omega) (by omega)
            have v3 : decide (((24 + (encS l).b.length : Nat) : Int) = (s.length : Int)) = true := by simp; omega
            rw [List.take_length] at k10 k11
            simp only [go_sem, Nat.reduceBEq, Nat.reduceAdd, Nat.reduceMul, Nat.reduceSub, Nat.reduceLeDiff, Int.reduceAdd, Int.reduceSub, Int.reduceMul, Int.reduceLE, Int.reduceLT, Int.reduceEq, Int.reduceNeg, Int.reduceToNat, Int.reduceTDiv, Int.reduceTMod, reduceIte, Nat.reduceEqDiff, Nat.reducePow, Int.reducePow, k0, k5, k7, k8, k9, k10, k11, k45, k46, k47, k52, k53, k54, v1, v2, hz, v3, decide_true]
            refine callK_clo (p_offnum s (16 + 4 * (i : Int)) _ (by omega) (by omega) (by omega)) (by first | (simp only [go_sem, Nat.reduceBEq, Nat.reduceAdd, Nat.reduceMul, Nat.reduceSub, Nat.reduceLeDiff, Int.reduceAdd, Int.reduceSub, Int.reduceMul, Int.reduceLE, Int.reduceLT, Int.reduceEq, Int.reduceNeg, Int.reduceToNat, Int.reduceTDiv, Int.reduceTMod, reduceIte, Nat.reduceEqDiff, Nat.reducePow, Int.reducePow, k0, k5, k7, k8, k9, k10, k11, k45, k46, k47, k52, k53, k54, v1, v2, hz, v3, decide_true]; done) | (simp only [go_sem, Nat.reduceBEq, Nat.reduceAdd, Nat.reduceMul, Nat.reduceSub, Nat.reduceLeDiff, Int.reduceAdd, Int.reduceSub, Int.reduceMul, Int.reduceLE, Int.reduceLT, Int.reduceEq, Int.reduceNeg, Int.reduceToNat, Int.reduceTDiv, Int.reduceTMod, reduceIte, Nat.reduceEqDiff, Nat.reducePow, Int.reducePow, k0, k5, k7, k8, k9, k10, k11, k45, k46, k47, k52, k53, k54, v1, v2, hz, v3, decide_true]; rfl) | rfl) ?_; simp only [go_sem, Nat.reduceBEq, Nat.reduceAdd, Nat.reduceMul, Nat.reduceSub, Nat.reduceLeDiff, Int.reduceAdd, Int.reduceSub, Int.reduceMul, Int.reduceLE, Int.reduceLT, Int.reduceEq, Int.reduceNeg, Int.reduceToNat, Int.reduceTDiv, Int.reduceTMod, reduceIte, Nat.reduceEqDiff, Nat.reducePow, Int.reducePow, k0, k5, k7, k8, k9, k10, k11, k45, k46, k47, k52, k53, k54, v1, v2, hz, v3, decide_true]
            exact ⟨i + 1, by omega, by omega, ⟨_, rfl⟩, by rw [wrap_i64 (by omega) (by omega)]; rfl⟩
end Go.Proofs.YtjmldlknegbimaaDoor.Sx
