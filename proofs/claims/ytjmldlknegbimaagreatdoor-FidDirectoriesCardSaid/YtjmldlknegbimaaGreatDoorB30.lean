/- Directories written: fid.EncodeAll. -/
import Derived.Test.YtjmldlknegbimaaGreatDoorB29
set_option linter.unusedVariables false
set_option linter.unusedSimpArgs false
namespace Go.Proofs.YtjmldlknegbimaaGreatDoor.Sx
open Go Go.RowKit
def enfE (f : Ent) (loc : Int) : Int := if entOk f = true then (if wordB loc = true then (if rangedB 257 1 loc = true then (if 65535 < (fidBody f).length then 7 else 0) else 2) else 2) else 1
def enfS (f : Ent) (loc : Int) : List UInt8 := if entOk f = true then (if wordB loc = true then (if rangedB 257 1 loc = true then (if 65535 < (fidBody f).length then [] else summed (tagHead 257 1 loc (fidBody f)) ++ fidBody f) else []) else []) else []
theorem encF_eq (f : Ent) (loc : Int) : encF f loc = .tup [.str (enfS f loc), .int .i64 (enfE f loc)] := by
  unfold encF enfE enfS sealV
  split
  · split
    · split
      · split <;> rfl
      · rfl
    · rfl
  · rfl
theorem enfS_le (f : Ent) (loc : Int) : (enfS f loc).length ≤ 65551 := by
  have hl : (tagHead 257 1 loc (fidBody f)).length = 16 := by simp [tagHead, leN_len]
  have hz : (summed (tagHead 257 1 loc (fidBody f))).length = 16 := by simp [summed, hl]
  unfold enfS
  split
  · split
    · split
      · split
        · exact Nat.zero_le _
        · rw [List.length_append, hz]; omega
      · exact Nat.zero_le _
    · exact Nat.zero_le _
  · exact Nat.zero_le _
/-- What is written of the entries left, behind what is written. -/
def encL (bl : List Int) : List Ent → List UInt8 → List UInt8 × Int
  | [], acc => (acc, 0)
  | f :: r, acc =>
    if entOk f = false then ([], 1)
    else if hasB bl acc.length = false then ([], 2)
    else if enfE f (locB bl acc.length) = 0 then encL bl r (acc ++ enfS f (locB bl acc.length))
    else ([], enfE f (locB bl acc.length))
def encAllP (l : List Ent) (bl : List Int) : List UInt8 × Int := if 1024 < l.length then ([], 7) else encL bl l []
def encAllV (l : List Ent) (bl : List Int) : DV := .tup [.str (encAllP l bl).1, .int .i64 (encAllP l bl).2]
set_option maxRecDepth 8000 in
theorem p_encodeAll (l : List Ent) (bl : List Int) (hl : l.length < 2 ^ 40) (hb : bl.length < 2 ^ 40) : PF Tryz.prog GT 14 [.sl .any (l.map entEl), .sl .any (bl.map intEl)] (encAllV l bl) := by
  refine PF.of_body mo Tryz.func14 rfl (by kernel_rfl) (by kernel_rfl) (by simp [Tryz.ntmps14]) ?_; simp only [go_sem, Nat.reduceBEq, Nat.reduceAdd, Nat.reduceMul, Nat.reduceSub, Nat.reduceLeDiff, Int.reduceAdd, Int.reduceSub, Int.reduceMul, Int.reduceLE, Int.reduceLT, Int.reduceEq, Int.reduceNeg, Int.reduceToNat, Int.reduceTDiv, Int.reduceTMod, reduceIte, Nat.reduceEqDiff, Nat.reducePow, Int.reducePow, Tryz.results14]
  (first | with_reducible refine condW_not ?_ ?_ | refine condW_split ?_ ?_) <;> intro h0 <;> simp only [go_sem, Nat.reduceBEq, Nat.reduceAdd, Nat.reduceMul, Nat.reduceSub, Nat.reduceLeDiff, Int.reduceAdd, Int.reduceSub, Int.reduceMul, Int.reduceLE, Int.reduceLT, Int.reduceEq, Int.reduceNeg, Int.reduceToNat, Int.reduceTDiv, Int.reduceTMod, reduceIte, Nat.reduceEqDiff, Nat.reducePow, Int.reducePow, h0]
  · have := toProp h0
    rw [encAllV, encAllP, if_pos (by omega)]
  have hn0 := toNot h0
  have hv : encAllP l bl = encL bl l [] := by rw [encAllP, if_neg (by omega)]
  rw [encAllV, hv]
  refine wpc_loop (Nat × List UInt8) (fun q => [(1, .d (.sl .any (bl.map intEl))), (6, .ptr 0 0), (18, .d (.sl .any (l.map entEl))), (19, .d (.int .i64 l.length)), (20, .d (.int .i64 q.1))])
    (fun q => [.bld 73 5 q.2]) (fun q => q.1 ≤ l.length ∧ q.2.length ≤ 65551 * q.1 ∧ encL bl l [] = encL bl (l.drop q.1) q.2) (fun q => l.length - q.1) (0, [])
    (.refl _ _) (fun q hq => ⟨Nat.zero_le _, rfl, rfl⟩) ⟨Nat.zero_le _, Nat.le_refl _, rfl⟩ rfl ?_ ?_
  · simp only [go_sem, Nat.reduceBEq, Nat.reduceAdd, Nat.reduceMul, Nat.reduceSub, Nat.reduceLeDiff, Int.reduceAdd, Int.reduceSub, Int.reduceMul, Int.reduceLE, Int.reduceLT, Int.reduceEq, Int.reduceNeg, Int.reduceToNat, Int.reduceTDiv, Int.reduceTMod, reduceIte, Nat.reduceEqDiff, Nat.reducePow, Int.reducePow]
    rfl
  rintro ⟨i, acc⟩ e ⟨hi, ha, hr⟩ ⟨g1, g6, g18, g19, g20, _⟩
  simp only at hi ha hr g20
  simp only [go_sem, Nat.reduceBEq, Nat.reduceAdd, Nat.reduceMul, Nat.reduceSub, Nat.reduceLeDiff, Int.reduceAdd, Int.reduceSub, Int.reduceMul, Int.reduceLE, Int.reduceLT, Int.reduceEq, Int.reduceNeg, Int.reduceToNat, Int.reduceTDiv, Int.reduceTMod, reduceIte, Nat.reduceEqDiff, Nat.reducePow, Int.reducePow, g1, g6, g18, g19, g20]
  (first | with_reducible refine condW_not ?_ ?_ | refine condW_split ?_ ?_) <;> intro h1 <;> simp only [go_sem, Nat.reduceBEq, Nat.reduceAdd, Nat.reduceMul, Nat.reduceSub, Nat.reduceLeDiff, Int.reduceAdd, Int.reduceSub, Int.reduceMul, Int.reduceLE, Int.reduceLT, Int.reduceEq, Int.reduceNeg, Int.reduceToNat, Int.reduceTDiv, Int.reduceTMod, reduceIte, Nat.reduceEqDiff, Nat.reducePow, Int.reducePow, g1, g6, g18, g19, g20, h1]
  · have hlt : i < l.length := by have := toProp h1; omega
    have hd : l.drop i = l[i] :: l.drop (i + 1) := List.drop_eq_getElem_cons hlt
    obtain ⟨f, hf⟩ : ∃ f, l[i] = f := ⟨_, rfl⟩
    have pn := p_fname f
    rw [nameV_eq] at pn
    rw [hd, hf] at hr
    refine ⟨⟨by omega, by omega⟩, ?_⟩
    simp only [go_sem, Nat.reduceBEq, Nat.reduceAdd, Nat.reduceMul, Nat.reduceSub, Nat.reduceLeDiff, Int.reduceAdd, Int.reduceSub, Int.reduceMul, Int.reduceLE, Int.reduceLT, Int.reduceEq, Int.reduceNeg, Int.reduceToNat, Int.reduceTDiv, Int.reduceTMod, reduceIte, Nat.reduceEqDiff, Nat.reducePow, Int.reducePow, g1, g6, g18, g19, g20, hf]
    refine callK_pf (pn) (by first | (simp only [go_sem, Nat.reduceBEq, Nat.reduceAdd, Nat.reduceMul, Nat.reduceSub, Nat.reduceLeDiff, Int.reduceAdd, Int.reduceSub, Int.reduceMul, Int.reduceLE, Int.reduceLT, Int.reduceEq, Int.reduceNeg, Int.reduceToNat, Int.reduceTDiv, Int.reduceTMod, reduceIte, Nat.reduceEqDiff, Nat.reducePow, Int.reducePow]; done) | (simp only [go_sem, Nat.reduceBEq, Nat.reduceAdd, Nat.reduceMul, Nat.reduceSub, Nat.reduceLeDiff, Int.reduceAdd, Int.reduceSub, Int.reduceMul, Int.reduceLE, Int.reduceLT, Int.reduceEq, Int.reduceNeg, Int.reduceToNat, Int.reduceTDiv, Int.reduceTMod, reduceIte, Nat.reduceEqDiff, Nat.reducePow, Int.reducePow]; rfl) | rfl) ?_; simp only [go_sem, Nat.reduceBEq, Nat.reduceAdd, Nat.reduceMul, Nat.reduceSub, Nat.reduceLeDiff, Int.reduceAdd, Int.reduceSub, Int.reduceMul, Int.reduceLE, Int.reduceLT, Int.reduceEq, Int.reduceNeg, Int.reduceToNat, Int.reduceTDiv, Int.reduceTMod, reduceIte, Nat.reduceEqDiff, Nat.reducePow, Int.reducePow, g1, g6, g18, g19, g20, hf]
    (first | with_reducible refine condW_not ?_ ?_ | refine condW_split ?_ ?_) <;> intro h2 <;> simp only [go_sem, Nat.reduceBEq, Nat.reduceAdd, Nat.reduceMul, Nat.reduceSub, Nat.reduceLeDiff, Int.reduceAdd, Int.reduceSub, Int.reduceMul, Int.reduceLE, Int.reduceLT, Int.reduceEq, Int.reduceNeg, Int.reduceToNat, Int.reduceTDiv, Int.reduceTMod, reduceIte, Nat.reduceEqDiff, Nat.reducePow, Int.reducePow, g1, g6, g18, g19, g20, hf, h2]
    · rw [hr, encL, if_pos h2]
    refine callK_fn (f_blen (id := 0) (l := acc) rfl) (by simp only [go_sem, Nat.reduceBEq, Nat.reduceAdd, Nat.reduceMul, Nat.reduceSub, Nat.reduceLeDiff, Int.reduceAdd, Int.reduceSub, Int.reduceMul, Int.reduceLE, Int.reduceLT, Int.reduceEq, Int.reduceNeg, Int.reduceToNat, Int.reduceTDiv, Int.reduceTMod, reduceIte, Nat.reduceEqDiff, Nat.reducePow, Int.reducePow, g1, g6, g18, g19, g20, hf]) ?_
    simp only [go_sem, Nat.reduceBEq, Nat.reduceAdd, Nat.reduceMul, Nat.reduceSub, Nat.reduceLeDiff, Int.reduceAdd, Int.reduceSub, Int.reduceMul, Int.reduceLE, Int.reduceLT, Int.reduceEq, Int.reduceNeg, Int.reduceToNat, Int.reduceTDiv, Int.reduceTMod, reduceIte, Nat.reduceEqDiff, Nat.reducePow, Int.reducePow, g1, g6, g18, g19, g20, hf]
    have hacc : acc.length < 2 ^ 40 := by omega
    refine callK_pf (p_block bl acc.length hacc hb) (by first | (simp only [go_sem, Nat.reduceBEq, Nat.reduceAdd, Nat.reduceMul, Nat.reduceSub, Nat.reduceLeDiff, Int.reduceAdd, Int.reduceSub, Int.reduceMul, Int.reduceLE, Int.reduceLT, Int.reduceEq, Int.reduceNeg, Int.reduceToNat, Int.reduceTDiv, Int.reduceTMod, reduceIte, Nat.reduceEqDiff, Nat.reducePow, Int.reducePow]; done) | (simp only [go_sem, Nat.reduceBEq, Nat.reduceAdd, Nat.reduceMul, Nat.reduceSub, Nat.reduceLeDiff, Int.reduceAdd, Int.reduceSub, Int.reduceMul, Int.reduceLE, Int.reduceLT, Int.reduceEq, Int.reduceNeg, Int.reduceToNat, Int.reduceTDiv, Int.reduceTMod, reduceIte, Nat.reduceEqDiff, Nat.reducePow, Int.reducePow]; rfl) | rfl) ?_; simp only [go_sem, Nat.reduceBEq, Nat.reduceAdd, Nat.reduceMul, Nat.reduceSub, Nat.reduceLeDiff, Int.reduceAdd, Int.reduceSub, Int.reduceMul, Int.reduceLE, Int.reduceLT, Int.reduceEq, Int.reduceNeg, Int.reduceToNat, Int.reduceTDiv, Int.reduceTMod, reduceIte, Nat.reduceEqDiff, Nat.reducePow, Int.reducePow, g1, g6, g18, g19, g20, hf]
    (first | with_reducible refine condW_not ?_ ?_ | refine condW_split ?_ ?_) <;> intro h3 <;> simp only [go_sem, Nat.reduceBEq, Nat.reduceAdd, Nat.reduceMul, Nat.reduceSub, Nat.reduceLeDiff, Int.reduceAdd, Int.reduceSub, Int.reduceMul, Int.reduceLE, Int.reduceLT, Int.reduceEq, Int.reduceNeg, Int.reduceToNat, Int.reduceTDiv, Int.reduceTMod, reduceIte, Nat.reduceEqDiff, Nat.reducePow, Int.reducePow, g1, g6, g18, g19, g20, hf, h3]
    · rw [hr, encL, if_neg (by rw [h2]; decide), if_pos h3]
    have pe := p_fencode f (locB bl acc.length)
    rw [encF_eq] at pe
    simp only [entEl] at pe
    refine callK_pf (pe) (by first | (simp only [go_sem, Nat.reduceBEq, Nat.reduceAdd, Nat.reduceMul, Nat.reduceSub, Nat.reduceLeDiff, Int.reduceAdd, Int.reduceSub, Int.reduceMul, Int.reduceLE, Int.reduceLT, Int.reduceEq, Int.reduceNeg, Int.reduceToNat, Int.reduceTDiv, Int.reduceTMod, reduceIte, Nat.reduceEqDiff, Nat.reducePow, Int.reducePow]; done) | (simp only [go_sem, Nat.reduceBEq, Nat.reduceAdd, Nat.reduceMul, Nat.reduceSub, Nat.reduceLeDiff, Int.reduceAdd, Int.reduceSub, Int.reduceMul, Int.reduceLE, Int.reduceLT, Int.reduceEq, Int.reduceNeg, Int.reduceToNat, Int.reduceTDiv, Int.reduceTMod, reduceIte, Nat.reduceEqDiff, Nat.reducePow, Int.reducePow]; rfl) | rfl) ?_; simp only [go_sem, Nat.reduceBEq, Nat.reduceAdd, Nat.reduceMul, Nat.reduceSub, Nat.reduceLeDiff, Int.reduceAdd, Int.reduceSub, Int.reduceMul, Int.reduceLE, Int.reduceLT, Int.reduceEq, Int.reduceNeg, Int.reduceToNat, Int.reduceTDiv, Int.reduceTMod, reduceIte, Nat.reduceEqDiff, Nat.reducePow, Int.reducePow, g1, g6, g18, g19, g20, hf]
    have hle := enfS_le f (locB bl acc.length)
    (first | with_reducible refine condW_not ?_ ?_ | refine condW_split ?_ ?_) <;> intro h4 <;> simp only [go_sem, Nat.reduceBEq, Nat.reduceAdd, Nat.reduceMul, Nat.reduceSub, Nat.reduceLeDiff, Int.reduceAdd, Int.reduceSub, Int.reduceMul, Int.reduceLE, Int.reduceLT, Int.reduceEq, Int.reduceNeg, Int.reduceToNat, Int.reduceTDiv, Int.reduceTMod, reduceIte, Nat.reduceEqDiff, Nat.reducePow, Int.reducePow, g1, g6, g18, g19, g20, hf, h4]
    · have h4' := toNot h4
      rw [hr, encL, if_neg (by rw [h2]; decide), if_neg (by rw [h3]; decide), if_neg h4']
    · have h4' := toProp h4
      refine callK_fn (f_bstr (id := 0) (l := acc) (enfS f (locB bl acc.length)) rfl (by omega)) (by simp only [go_sem, Nat.reduceBEq, Nat.reduceAdd, Nat.reduceMul, Nat.reduceSub, Nat.reduceLeDiff, Int.reduceAdd, Int.reduceSub, Int.reduceMul, Int.reduceLE, Int.reduceLT, Int.reduceEq, Int.reduceNeg, Int.reduceToNat, Int.reduceTDiv, Int.reduceTMod, reduceIte, Nat.reduceEqDiff, Nat.reducePow, Int.reducePow, g1, g6, g18, g19, g20, hf]) ?_
      simp only [go_sem, Nat.reduceBEq, Nat.reduceAdd, Nat.reduceMul, Nat.reduceSub, Nat.reduceLeDiff, Int.reduceAdd, Int.reduceSub, Int.reduceMul, Int.reduceLE, Int.reduceLT, Int.reduceEq, Int.reduceNeg, Int.reduceToNat, Int.reduceTDiv, Int.reduceTMod, reduceIte, Nat.reduceEqDiff, Nat.reducePow, Int.reducePow, g1, g6, g18, g19, g20, hf]
      refine ⟨(i + 1, acc ++ enfS f (locB bl acc.length)), ⟨by show i + 1 ≤ _; omega, by simp only [List.length_append]; omega, ?_⟩, by show l.length - (i + 1) < _; omega, ⟨_, rfl⟩, by rw [wrap_i64 (by omega) (by omega)]; rfl⟩
      rw [hr, encL, if_neg (by rw [h2]; decide), if_neg (by rw [h3]; decide), if_pos h4']
  · have : i = l.length := by have := toNot h1; omega
    subst this
    rw [List.drop_length, encL] at hr
    rw [hr]
    refine callK_fn (f_bstring (id := 0) (l := acc) rfl) (by simp only [go_sem, Nat.reduceBEq, Nat.reduceAdd, Nat.reduceMul, Nat.reduceSub, Nat.reduceLeDiff, Int.reduceAdd, Int.reduceSub, Int.reduceMul, Int.reduceLE, Int.reduceLT, Int.reduceEq, Int.reduceNeg, Int.reduceToNat, Int.reduceTDiv, Int.reduceTMod, reduceIte, Nat.reduceEqDiff, Nat.reducePow, Int.reducePow, g1, g6, g18, g19, g20]) ?_
    simp only [go_sem, Nat.reduceBEq, Nat.reduceAdd, Nat.reduceMul, Nat.reduceSub, Nat.reduceLeDiff, Int.reduceAdd, Int.reduceSub, Int.reduceMul, Int.reduceLE, Int.reduceLT, Int.reduceEq, Int.reduceNeg, Int.reduceToNat, Int.reduceTDiv, Int.reduceTMod, reduceIte, Nat.reduceEqDiff, Nat.reducePow, Int.reducePow, g1, g6, g18, g19, g20]
end Go.Proofs.YtjmldlknegbimaaGreatDoor.Sx
