/- strings.Repeat by the kit's contract; attributes by the program. -/
import Derived.Shelf.Strings.Repeat
import Derived.Ground.NamesProg
import Derived.Test.YtjmldlknegbimaaDoorS0
import Derived.Test.YtjmldlknegbimaaDoorM4
import Derived.Test.YtjmldlknegbimaaDoorB6
import Derived.Lib.Agree
set_option linter.unusedVariables false
set_option linter.unusedSimpArgs false
namespace Go.Proofs
open Go.Shelf Go.RowKit
theorem Tryd.extraRepeat : Builder.Extra Tryd.prog Tryd.laysRepeat_ren where
  sizeBuilder := by kernel_rfl
  liesBuilder := by kernel_rfl
  t5 := Tryd.laysRepeat.t5
  a5 := Tryd.laysRepeat.a5
  z5 := Tryd.laysRepeat.z5
  v5 := Tryd.laysRepeat.v5
  infoByte := by kernel_rfl
  cellsByte := by kernel_rfl
  sizeByte := by kernel_rfl
  neB5 := by decide
end Go.Proofs
namespace Go.Proofs.YtjmldlknegbimaaDoor.Sx
open Go Go.RowKit
variable {G : Gl}
theorem p_strRepeat (s : List UInt8) (c : Nat) (hc : c ≤ 9223372036854775807) (hl : s.length * c ≤ 140737488355328) : PF Tryd.prog G 73 [.str s, .int .i64 c] (.str (Lib.repeatL s c)) := by
  refine PF.of_below (vs := [.string ⟨s.toArray⟩, .int .i64 c]) (v := .string ⟨(Lib.repeatL s c).toArray⟩) (by kernel_rfl) rfl (fun K => .str _) (fun w => ?_)
  have := Any.strings_Repeat Tryd.laysRepeat Tryd.extraRepeat ⟨s.toArray⟩ c w hc (by simpa [ByteArray.size] using hl)
  exact this
theorem repeatL_one (x : UInt8) (c : Nat) : Lib.repeatL [x] c = List.replicate c x := by
  induction c with
  | zero => rfl
  | succ c ih => rw [List.replicate_succ, ← ih]; rfl
theorem p_xattr (a : Attr) (h : attrOk a = true) : PF Tryd.prog G 50 [.agg [.int .i64 a.ty, .int .i64 a.sub, .str a.data]] (.str (attrBytes a)) := by
  simp only [attrOk, Bool.and_eq_true, decide_eq_true_eq] at h
  have e1 : IntKind.i64.wrap (16 + (a.data.length : Int)) = 16 + a.data.length := wrap_i64 (by omega) (by omega)
  have e2 : IntKind.i64.wrap (16 + (a.data.length : Int) + 3) = 16 + a.data.length + 3 := wrap_i64 (by omega) (by omega)
  have e3 : IntKind.i64.wrap ((16 + (a.data.length : Int) + 3).tdiv 4) = ((a.data.length + 19) / 4 : Nat) := by
    rw [Int.tdiv_eq_ediv_of_nonneg (by omega), wrap_i64 (by omega) (by omega)]; omega
  have e4 : IntKind.i64.wrap ((((a.data.length + 19) / 4 : Nat) : Int) * 4) = (attrLen a : Nat) := by
    rw [wrap_i64 (by omega) (by omega), attrLen]; omega
  have hn : attrLen a < 2100 := by unfold attrLen; omega
  have hn2 : a.data.length + 16 ≤ attrLen a := by unfold attrLen; omega
  have e5 : IntKind.i64.wrap ((attrLen a : Int) - 16) = attrLen a - 16 := wrap_i64 (by omega) (by omega)
  have e6 : IntKind.i64.wrap ((attrLen a : Int) - 16 - a.data.length) = ((attrLen a - 16 - a.data.length : Nat) : Int) := by rw [wrap_i64 (by omega) (by omega)]; omega
  refine PF.of_body mo Tryd.func50 rfl (by kernel_rfl) (by kernel_rfl) (by simp [Tryd.ntmps50]) ?_; simp only [go_sem, Nat.reduceBEq, Nat.reduceAdd, Nat.reduceMul, Nat.reduceSub, Nat.reduceLeDiff, Int.reduceAdd, Int.reduceSub, Int.reduceMul, Int.reduceLE, Int.reduceLT, Int.reduceEq, Int.reduceNeg, Int.reduceToNat, Int.reduceTDiv, Int.reduceTMod, reduceIte, Nat.reduceEqDiff, Nat.reducePow, Int.reducePow, Tryd.results50]
  simp only [go_sem, Nat.reduceBEq, Nat.reduceAdd, Nat.reduceMul, Nat.reduceSub, Nat.reduceLeDiff, Int.reduceAdd, Int.reduceSub, Int.reduceMul, Int.reduceLE, Int.reduceLT, Int.reduceEq, Int.reduceNeg, Int.reduceToNat, Int.reduceTDiv, Int.reduceTMod, reduceIte, Nat.reduceEqDiff, Nat.reducePow, Int.reducePow, e1, e2, e3, e4, e5, e6, leN_len, repeatL_one]
  have c1 : errOf a.ty 4 = 0 := errOf4 _ (by omega) (by omega)
  have c2 : errOf a.sub 1 = 0 := by
    unfold errOf fitsB
    rw [if_neg (by decide), if_pos]
    simp; omega
  have c3 : errOf 0 3 = 0 := by decide
  refine callKT_pf (p_xlittle a.ty 4 (by omega) c1) (by first | (simp only [go_sem, Nat.reduceBEq, Nat.reduceAdd, Nat.reduceMul, Nat.reduceSub, Nat.reduceLeDiff, Int.reduceAdd, Int.reduceSub, Int.reduceMul, Int.reduceLE, Int.reduceLT, Int.reduceEq, Int.reduceNeg, Int.reduceToNat, Int.reduceTDiv, Int.reduceTMod, reduceIte, Nat.reduceEqDiff, Nat.reducePow, Int.reducePow]; done) | (simp only [go_sem, Nat.reduceBEq, Nat.reduceAdd, Nat.reduceMul, Nat.reduceSub, Nat.reduceLeDiff, Int.reduceAdd, Int.reduceSub, Int.reduceMul, Int.reduceLE, Int.reduceLT, Int.reduceEq, Int.reduceNeg, Int.reduceToNat, Int.reduceTDiv, Int.reduceTMod, reduceIte, Nat.reduceEqDiff, Nat.reducePow, Int.reducePow]; rfl) | rfl) ?_; simp only [go_sem, Nat.reduceBEq, Nat.reduceAdd, Nat.reduceMul, Nat.reduceSub, Nat.reduceLeDiff, Int.reduceAdd, Int.reduceSub, Int.reduceMul, Int.reduceLE, Int.reduceLT, Int.reduceEq, Int.reduceNeg, Int.reduceToNat, Int.reduceTDiv, Int.reduceTMod, reduceIte, Nat.reduceEqDiff, Nat.reducePow, Int.reducePow, e1, e2, e3, e4, e5, e6, leN_len, repeatL_one]
  refine callKT_pf (p_xlittle a.sub 1 (by omega) c2) (by first | (simp only [go_sem, Nat.reduceBEq, Nat.reduceAdd, Nat.reduceMul, Nat.reduceSub, Nat.reduceLeDiff, Int.reduceAdd, Int.reduceSub, Int.reduceMul, Int.reduceLE, Int.reduceLT, Int.reduceEq, Int.reduceNeg, Int.reduceToNat, Int.reduceTDiv, Int.reduceTMod, reduceIte, Nat.reduceEqDiff, Nat.reducePow, Int.reducePow]; done) | (simp only [go_sem, Nat.reduceBEq, Nat.reduceAdd, Nat.reduceMul, Nat.reduceSub, Nat.reduceLeDiff, Int.reduceAdd, Int.reduceSub, Int.reduceMul, Int.reduceLE, Int.reduceLT, Int.reduceEq, Int.reduceNeg, Int.reduceToNat, Int.reduceTDiv, Int.reduceTMod, reduceIte, Nat.reduceEqDiff, Nat.reducePow, Int.reducePow]; rfl) | rfl) ?_; simp only [go_sem, Nat.reduceBEq, Nat.reduceAdd, Nat.reduceMul, Nat.reduceSub, Nat.reduceLeDiff, Int.reduceAdd, Int.reduceSub, Int.reduceMul, Int.reduceLE, Int.reduceLT, Int.reduceEq, Int.reduceNeg, Int.reduceToNat, Int.reduceTDiv, Int.reduceTMod, reduceIte, Nat.reduceEqDiff, Nat.reducePow, Int.reducePow, e1, e2, e3, e4, e5, e6, leN_len, repeatL_one]
  refine callKT_pf (p_xlittle 0 3 (by omega) c3) (by first | (simp only [go_sem, Nat.reduceBEq, Nat.reduceAdd, Nat.reduceMul, Nat.reduceSub, Nat.reduceLeDiff, Int.reduceAdd, Int.reduceSub, Int.reduceMul, Int.reduceLE, Int.reduceLT, Int.reduceEq, Int.reduceNeg, Int.reduceToNat, Int.reduceTDiv, Int.reduceTMod, reduceIte, Nat.reduceEqDiff, Nat.reducePow, Int.reducePow]; done) | (simp only [go_sem, Nat.reduceBEq, Nat.reduceAdd, Nat.reduceMul, Nat.reduceSub, Nat.reduceLeDiff, Int.reduceAdd, Int.reduceSub, Int.reduceMul, Int.reduceLE, Int.reduceLT, Int.reduceEq, Int.reduceNeg, Int.reduceToNat, Int.reduceTDiv, Int.reduceTMod, reduceIte, Nat.reduceEqDiff, Nat.reducePow, Int.reducePow]; rfl) | rfl) ?_; simp only [go_sem, Nat.reduceBEq, Nat.reduceAdd, Nat.reduceMul, Nat.reduceSub, Nat.reduceLeDiff, Int.reduceAdd, Int.reduceSub, Int.reduceMul, Int.reduceLE, Int.reduceLT, Int.reduceEq, Int.reduceNeg, Int.reduceToNat, Int.reduceTDiv, Int.reduceTMod, reduceIte, Nat.reduceEqDiff, Nat.reducePow, Int.reducePow, e1, e2, e3, e4, e5, e6, leN_len, repeatL_one]
  refine callKT_pf (p_xlittle (attrLen a) 4 (by omega) (errOf4 _ (by omega) (by omega))) (by first | (simp only [go_sem, Nat.reduceBEq, Nat.reduceAdd, Nat.reduceMul, Nat.reduceSub, Nat.reduceLeDiff, Int.reduceAdd, Int.reduceSub, Int.reduceMul, Int.reduceLE, Int.reduceLT, Int.reduceEq, Int.reduceNeg, Int.reduceToNat, Int.reduceTDiv, Int.reduceTMod, reduceIte, Nat.reduceEqDiff, Nat.reducePow, Int.reducePow]; done) | (simp only [go_sem, Nat.reduceBEq, Nat.reduceAdd, Nat.reduceMul, Nat.reduceSub, Nat.reduceLeDiff, Int.reduceAdd, Int.reduceSub, Int.reduceMul, Int.reduceLE, Int.reduceLT, Int.reduceEq, Int.reduceNeg, Int.reduceToNat, Int.reduceTDiv, Int.reduceTMod, reduceIte, Nat.reduceEqDiff, Nat.reducePow, Int.reducePow]; rfl) | rfl) ?_; simp only [go_sem, Nat.reduceBEq, Nat.reduceAdd, Nat.reduceMul, Nat.reduceSub, Nat.reduceLeDiff, Int.reduceAdd, Int.reduceSub, Int.reduceMul, Int.reduceLE, Int.reduceLT, Int.reduceEq, Int.reduceNeg, Int.reduceToNat, Int.reduceTDiv, Int.reduceTMod, reduceIte, Nat.reduceEqDiff, Nat.reducePow, Int.reducePow, e1, e2, e3, e4, e5, e6, leN_len, repeatL_one]
  refine callKT_pf (p_xlittle a.data.length 4 (by omega) (errOf4 _ (by omega) (by omega))) (by first | (simp only [go_sem, Nat.reduceBEq, Nat.reduceAdd, Nat.reduceMul, Nat.reduceSub, Nat.reduceLeDiff, Int.reduceAdd, Int.reduceSub, Int.reduceMul, Int.reduceLE, Int.reduceLT, Int.reduceEq, Int.reduceNeg, Int.reduceToNat, Int.reduceTDiv, Int.reduceTMod, reduceIte, Nat.reduceEqDiff, Nat.reducePow, Int.reducePow]; done) | (simp only [go_sem, Nat.reduceBEq, Nat.reduceAdd, Nat.reduceMul, Nat.reduceSub, Nat.reduceLeDiff, Int.reduceAdd, Int.reduceSub, Int.reduceMul, Int.reduceLE, Int.reduceLT, Int.reduceEq, Int.reduceNeg, Int.reduceToNat, Int.reduceTDiv, Int.reduceTMod, reduceIte, Nat.reduceEqDiff, Nat.reducePow, Int.reducePow]; rfl) | rfl) ?_; simp only [go_sem, Nat.reduceBEq, Nat.reduceAdd, Nat.reduceMul, Nat.reduceSub, Nat.reduceLeDiff, Int.reduceAdd, Int.reduceSub, Int.reduceMul, Int.reduceLE, Int.reduceLT, Int.reduceEq, Int.reduceNeg, Int.reduceToNat, Int.reduceTDiv, Int.reduceTMod, reduceIte, Nat.reduceEqDiff, Nat.reducePow, Int.reducePow, e1, e2, e3, e4, e5, e6, leN_len, repeatL_one]
  refine ⟨by omega, ?_⟩
  refine callKT_pf (p_strRepeat [0] (attrLen a - 16 - a.data.length) (by omega) (by simp; omega)) (by first | (simp only [go_sem, Nat.reduceBEq, Nat.reduceAdd, Nat.reduceMul, Nat.reduceSub, Nat.reduceLeDiff, Int.reduceAdd, Int.reduceSub, Int.reduceMul, Int.reduceLE, Int.reduceLT, Int.reduceEq, Int.reduceNeg, Int.reduceToNat, Int.reduceTDiv, Int.reduceTMod, reduceIte, Nat.reduceEqDiff, Nat.reducePow, Int.reducePow]; done) | (simp only [go_sem, Nat.reduceBEq, Nat.reduceAdd, Nat.reduceMul, Nat.reduceSub, Nat.reduceLeDiff, Int.reduceAdd, Int.reduceSub, Int.reduceMul, Int.reduceLE, Int.reduceLT, Int.reduceEq, Int.reduceNeg, Int.reduceToNat, Int.reduceTDiv, Int.reduceTMod, reduceIte, Nat.reduceEqDiff, Nat.reducePow, Int.reducePow]; rfl) | rfl) ?_; simp only [go_sem, Nat.reduceBEq, Nat.reduceAdd, Nat.reduceMul, Nat.reduceSub, Nat.reduceLeDiff, Int.reduceAdd, Int.reduceSub, Int.reduceMul, Int.reduceLE, Int.reduceLT, Int.reduceEq, Int.reduceNeg, Int.reduceToNat, Int.reduceTDiv, Int.reduceTMod, reduceIte, Nat.reduceEqDiff, Nat.reducePow, Int.reducePow, e1, e2, e3, e4, e5, e6, leN_len, repeatL_one]
  have hz : leN 3 0 = [0, 0, 0] := by decide
  have hx : leN 4 a.ty ++ leN 1 a.sub ++ leN 3 0 ++ leN 4 (attrLen a : Nat) ++ leN 4 (a.data.length : Nat) ++ a.data ++ List.replicate (attrLen a - 16 - a.data.length) 0 = attrBytes a := by
    rw [hz, attrBytes]
  refine ⟨by omega, by kernel_rfl, ?_⟩
  rw [hx]
end Go.Proofs.YtjmldlknegbimaaDoor.Sx
