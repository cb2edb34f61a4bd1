/- Directories: fid.Valid and the reference's Valid against one plain function. -/
import Derived.Test.YtjmldlknegbimaaGreatDoorB17
set_option linter.unusedVariables false
set_option linter.unusedSimpArgs false
namespace Go.Proofs.YtjmldlknegbimaaGreatDoor.Sx
open Go Go.RowKit
variable {G : Gl}
@[go_sem] theorem ty_luSB (H : List HO) (x k : AV) (ok : Bool) : luA Tryz.prog H 84 x k ok = luS (.d (.bool false)) H x k ok := luA_eq (kt := 9) (et := 4) (by kernel_rfl) (by kernel_rfl) (by kernel_rfl) H x k ok
@[go_sem] theorem ty_muSB (H : List HO) (m k v : AV) : muA Tryz.prog H 84 m k v = muS H m k v := muA_eq (kt := 9) (et := 4) (by kernel_rfl) (by kernel_rfl) H m k v
def entOk (f : Ent) : Bool := rangeB f && nameOk f
def nameS (f : Ent) : List UInt8 := if rangeB f = true then (if f.par = true then [] else comS f.name) else []
theorem nameV_eq (f : Ent) : nameV f = .tup [.str (nameS f), .bool (entOk f)] := by
  unfold nameV nameS entOk
  cases rangeB f
  · rfl
  · cases f.par <;> rfl
def live (f : Ent) : Bool := !(f.del || f.par)
/-- A name that one of the living entries has. -/
def seenB (l : List Ent) (n : List UInt8) : Bool := l.any fun g => live g && (g.name == n)
def okAt (l : List Ent) (i : Nat) : Bool := entOk (l.getD i default) && (((l.getD i default).par == decide ((i : Int) = 0)) && (!live (l.getD i default) || !seenB (l.take i) (l.getD i default).name))
def validF (l : List Ent) : Bool := decide (1 ≤ l.length ∧ l.length ≤ 1024) && (List.range l.length).all (okAt l)
def mapOf (l : List Ent) : List (List UInt8 × DV) := (l.filter live).map fun g => (g.name, .bool true)
theorem mpFind_map : ∀ (l : List Ent) (n : List UInt8), mpFind n (mapOf l) = if seenB l n = true then some (.bool true) else none
  | [], n => rfl
  | f :: l, n => by
    have ih := mpFind_map l n
    unfold mapOf seenB at *
    cases hl : live f with
    | false => simp only [List.filter_cons, hl, List.any_cons]; simpa using ih
    | true =>
      simp only [List.filter_cons, hl, if_true, List.map_cons, mpFind, List.any_cons, Bool.true_and]
      by_cases hn : n = f.name
      · rw [if_pos hn, hn]; simp
      · have : (f.name == n) = false := by simpa using fun h => hn h.symm
        rw [if_neg hn, this, ih]; simp
theorem mpPut_map : ∀ (l : List Ent) (n : List UInt8), seenB l n = false → mpPut n (.bool true) (mapOf l) = mapOf l ++ [(n, .bool true)]
  | [], n, _ => rfl
  | f :: l, n, h => by
    unfold seenB at h
    rw [List.any_cons, Bool.or_eq_false_iff] at h
    have ih := mpPut_map l n h.2
    unfold mapOf at *
    cases hl : live f with
    | false => simp only [List.filter_cons, hl]; simpa using ih
    | true =>
      have hn : n ≠ f.name := by
        rintro rfl
        have := h.1
        rw [hl] at this
        simp at this
      simp only [List.filter_cons, hl, if_true, List.map_cons, mpPut, if_neg hn, List.cons_append]
      rw [ih]
theorem mapOf_snoc (l : List Ent) (f : Ent) : mapOf (l ++ [f]) = if live f = true then mapOf l ++ [(f.name, .bool true)] else mapOf l := by
  unfold mapOf
  rw [List.filter_append]
  cases hl : live f <;> simp [List.filter_cons, hl]
theorem range_all_succ' (p : Nat → Bool) (i : Nat) : (List.range (i + 1)).all p = ((List.range i).all p && p i) := by simp [List.range_succ]
theorem range_all_no (p : Nat → Bool) (i n : Nat) (hi : i < n) (h : p i = false) : (List.range n).all p = false := by
  rw [List.all_eq_false]
  exact ⟨i, by simpa using hi, by simp [h]⟩
set_option maxRecDepth 8000 in
theorem p_fvalid (l : List Ent) (hl : l.length < 2 ^ 62) : PF Tryz.prog GT 19 [.sl .any (l.map entEl)] (.bool (validF l)) := by
  refine PF.of_body mo Tryz.func19 rfl (by kernel_rfl) (by kernel_rfl) (by simp [Tryz.ntmps19]) ?_; simp only [go_sem, Nat.reduceBEq, Nat.reduceAdd, Nat.reduceMul, Nat.reduceSub, Nat.reduceLeDiff, Int.reduceAdd, Int.reduceSub, Int.reduceMul, Int.reduceLE, Int.reduceLT, Int.reduceEq, Int.reduceNeg, Int.reduceToNat, Int.reduceTDiv, Int.reduceTMod, reduceIte, Nat.reduceEqDiff, Nat.reducePow, Int.reducePow, Tryz.results19]
  (first | with_reducible refine gO_not ?_ ?_ | with_reducible refine gT_not ?_ ?_ | refine gO_split ?_ ?_ | refine gT_split ?_ ?_) <;> intro h1 <;> simp only [go_sem, Nat.reduceBEq, Nat.reduceAdd, Nat.reduceMul, Nat.reduceSub, Nat.reduceLeDiff, Int.reduceAdd, Int.reduceSub, Int.reduceMul, Int.reduceLE, Int.reduceLT, Int.reduceEq, Int.reduceNeg, Int.reduceToNat, Int.reduceTDiv, Int.reduceTMod, reduceIte, Nat.reduceEqDiff, Nat.reducePow, Int.reducePow, h1]
  · (first | with_reducible refine condW_not ?_ ?_ | refine condW_split ?_ ?_) <;> intro h2 <;> simp only [go_sem, Nat.reduceBEq, Nat.reduceAdd, Nat.reduceMul, Nat.reduceSub, Nat.reduceLeDiff, Int.reduceAdd, Int.reduceSub, Int.reduceMul, Int.reduceLE, Int.reduceLT, Int.reduceEq, Int.reduceNeg, Int.reduceToNat, Int.reduceTDiv, Int.reduceTMod, reduceIte, Nat.reduceEqDiff, Nat.reducePow, Int.reducePow, h2]
    · have : validF l = false := by rw [validF, Bool.and_eq_false_iff]; left; have := toProp h2; simp; omega
      rw [this]
    · have hb : decide (1 ≤ l.length ∧ l.length ≤ 1024) = true := by have := toNot h1; have := toNot h2; simp; omega
      have hv : validF l = (List.range l.length).all (okAt l) := by rw [validF, hb, Bool.true_and]
      rw [hv]
      refine wpc_loop Nat (fun i => [(3, .mp 0), (17, .d (.sl .any (l.map entEl))), (18, .d (.int .i64 l.length)), (19, .d (.int .i64 i))]) (fun i => [.mp (mapOf (l.take i))]) (fun i => i ≤ l.length ∧ (List.range i).all (okAt l) = true) (fun i => l.length - i) 0
        (.refl _ _) (fun i hi => ⟨Nat.zero_le _, rfl, rfl⟩) ⟨Nat.zero_le _, rfl⟩ rfl ?_ ?_
      · simp only [go_sem, Nat.reduceBEq, Nat.reduceAdd, Nat.reduceMul, Nat.reduceSub, Nat.reduceLeDiff, Int.reduceAdd, Int.reduceSub, Int.reduceMul, Int.reduceLE, Int.reduceLT, Int.reduceEq, Int.reduceNeg, Int.reduceToNat, Int.reduceTDiv, Int.reduceTMod, reduceIte, Nat.reduceEqDiff, Nat.reducePow, Int.reducePow]
        rfl
      intro i e ⟨hi, ha⟩ ⟨g3, g17, g18, g19, _⟩
      simp only [go_sem, Nat.reduceBEq, Nat.reduceAdd, Nat.reduceMul, Nat.reduceSub, Nat.reduceLeDiff, Int.reduceAdd, Int.reduceSub, Int.reduceMul, Int.reduceLE, Int.reduceLT, Int.reduceEq, Int.reduceNeg, Int.reduceToNat, Int.reduceTDiv, Int.reduceTMod, reduceIte, Nat.reduceEqDiff, Nat.reducePow, Int.reducePow, g3, g17, g18, g19]
      (first | with_reducible refine condW_not ?_ ?_ | refine condW_split ?_ ?_) <;> intro h3 <;> simp only [go_sem, Nat.reduceBEq, Nat.reduceAdd, Nat.reduceMul, Nat.reduceSub, Nat.reduceLeDiff, Int.reduceAdd, Int.reduceSub, Int.reduceMul, Int.reduceLE, Int.reduceLT, Int.reduceEq, Int.reduceNeg, Int.reduceToNat, Int.reduceTDiv, Int.reduceTMod, reduceIte, Nat.reduceEqDiff, Nat.reducePow, Int.reducePow, g3, g17, g18, g19, h3]
      · have hlt : i < l.length := by have := toProp h3; omega
        have hg : l.getD i default = l[i] := by simp [List.getD_eq_getElem?_getD, hlt]
        have pn := p_fname l[i]
        rw [nameV_eq] at pn
        have bad : okAt l i = false → (List.range l.length).all (okAt l) = false := range_all_no _ _ _ hlt
        have hf : luR false (.d (.bool false)) (mpFind l[i].name (mapOf (l.take i))) = .d (.bool (seenB (l.take i) l[i].name)) := by
          rw [mpFind_map]
          cases seenB (l.take i) l[i].name <;> rfl
        refine ⟨⟨by omega, by omega⟩, ?_⟩
        simp only [go_sem, Nat.reduceBEq, Nat.reduceAdd, Nat.reduceMul, Nat.reduceSub, Nat.reduceLeDiff, Int.reduceAdd, Int.reduceSub, Int.reduceMul, Int.reduceLE, Int.reduceLT, Int.reduceEq, Int.reduceNeg, Int.reduceToNat, Int.reduceTDiv, Int.reduceTMod, reduceIte, Nat.reduceEqDiff, Nat.reducePow, Int.reducePow, g3, g17, g18, g19, entEl, hf]
        refine callK_pf (pn) (by first | (simp only [go_sem, Nat.reduceBEq, Nat.reduceAdd, Nat.reduceMul, Nat.reduceSub, Nat.reduceLeDiff, Int.reduceAdd, Int.reduceSub, Int.reduceMul, Int.reduceLE, Int.reduceLT, Int.reduceEq, Int.reduceNeg, Int.reduceToNat, Int.reduceTDiv, Int.reduceTMod, reduceIte, Nat.reduceEqDiff, Nat.reducePow, Int.reducePow]; done) | (simp only [go_sem, Nat.reduceBEq, Nat.reduceAdd, Nat.reduceMul, Nat.reduceSub, Nat.reduceLeDiff, Int.reduceAdd, Int.reduceSub, Int.reduceMul, Int.reduceLE, Int.reduceLT, Int.reduceEq, Int.reduceNeg, Int.reduceToNat, Int.reduceTDiv, Int.reduceTMod, reduceIte, Nat.reduceEqDiff, Nat.reducePow, Int.reducePow]; rfl) | rfl) ?_; simp only [go_sem, Nat.reduceBEq, Nat.reduceAdd, Nat.reduceMul, Nat.reduceSub, Nat.reduceLeDiff, Int.reduceAdd, Int.reduceSub, Int.reduceMul, Int.reduceLE, Int.reduceLT, Int.reduceEq, Int.reduceNeg, Int.reduceToNat, Int.reduceTDiv, Int.reduceTMod, reduceIte, Nat.reduceEqDiff, Nat.reducePow, Int.reducePow, g3, g17, g18, g19, entEl, hf]
        (first | with_reducible refine gO_not ?_ ?_ | with_reducible refine gT_not ?_ ?_ | refine gO_split ?_ ?_ | refine gT_split ?_ ?_) <;> intro h4 <;> simp only [go_sem, Nat.reduceBEq, Nat.reduceAdd, Nat.reduceMul, Nat.reduceSub, Nat.reduceLeDiff, Int.reduceAdd, Int.reduceSub, Int.reduceMul, Int.reduceLE, Int.reduceLT, Int.reduceEq, Int.reduceNeg, Int.reduceToNat, Int.reduceTDiv, Int.reduceTMod, reduceIte, Nat.reduceEqDiff, Nat.reducePow, Int.reducePow, g3, g17, g18, g19, entEl, hf, h4]
        · (first | with_reducible refine condW_not ?_ ?_ | refine condW_split ?_ ?_) <;> intro h5 <;> simp only [go_sem, Nat.reduceBEq, Nat.reduceAdd, Nat.reduceMul, Nat.reduceSub, Nat.reduceLeDiff, Int.reduceAdd, Int.reduceSub, Int.reduceMul, Int.reduceLE, Int.reduceLT, Int.reduceEq, Int.reduceNeg, Int.reduceToNat, Int.reduceTDiv, Int.reduceTMod, reduceIte, Nat.reduceEqDiff, Nat.reducePow, Int.reducePow, g3, g17, g18, g19, entEl, hf, h5]
          · rw [bad (by rw [okAt, hg]; simp only [h4, h5]; simp)]
          · have ok : ∀ b : Bool, (!live l[i] || !seenB (l.take i) l[i].name) = b → okAt l i = b := fun b hb => by
              rw [okAt, hg, hb]; simp only [h4, h5]; simp
            have ts : l.take (i + 1) = l.take i ++ [l[i]] := List.take_succ_eq_append_getElem hlt
            have go : okAt l i = true → i + 1 ≤ l.length ∧ (List.range (i + 1)).all (okAt l) = true := fun h => ⟨by omega, by rw [range_all_succ', ha, h]; rfl⟩
            (first | with_reducible refine gO_not ?_ ?_ | with_reducible refine gT_not ?_ ?_ | refine gO_split ?_ ?_ | refine gT_split ?_ ?_) <;> intro h6 <;> simp only [go_sem, Nat.reduceBEq, Nat.reduceAdd, Nat.reduceMul, Nat.reduceSub, Nat.reduceLeDiff, Int.reduceAdd, Int.reduceSub, Int.reduceMul, Int.reduceLE, Int.reduceLT, Int.reduceEq, Int.reduceNeg, Int.reduceToNat, Int.reduceTDiv, Int.reduceTMod, reduceIte, Nat.reduceEqDiff, Nat.reducePow, Int.reducePow, g3, g17, g18, g19, entEl, hf, h6]
            · (first | with_reducible refine condW_not ?_ ?_ | refine condW_split ?_ ?_) <;> intro h7 <;> simp only [go_sem, Nat.reduceBEq, Nat.reduceAdd, Nat.reduceMul, Nat.reduceSub, Nat.reduceLeDiff, Int.reduceAdd, Int.reduceSub, Int.reduceMul, Int.reduceLE, Int.reduceLT, Int.reduceEq, Int.reduceNeg, Int.reduceToNat, Int.reduceTDiv, Int.reduceTMod, reduceIte, Nat.reduceEqDiff, Nat.reducePow, Int.reducePow, g3, g17, g18, g19, entEl, hf, h7]
              · have hlv : live l[i] = false := by simp [live, h7]
                refine ⟨i + 1, go (ok true (by rw [hlv]; rfl)), by omega, ⟨_, by rw [ts, mapOf_snoc, if_neg (by rw [hlv]; decide)]⟩, by rw [wrap_i64 (by omega) (by omega)]; rfl⟩
              · have hlv : live l[i] = true := by simp [live, h6, h7]
                (first | with_reducible refine condW_not ?_ ?_ | refine condW_split ?_ ?_) <;> intro h8 <;> simp only [go_sem, Nat.reduceBEq, Nat.reduceAdd, Nat.reduceMul, Nat.reduceSub, Nat.reduceLeDiff, Int.reduceAdd, Int.reduceSub, Int.reduceMul, Int.reduceLE, Int.reduceLT, Int.reduceEq, Int.reduceNeg, Int.reduceToNat, Int.reduceTDiv, Int.reduceTMod, reduceIte, Nat.reduceEqDiff, Nat.reducePow, Int.reducePow, g3, g17, g18, g19, entEl, hf, h8]
                · rw [bad (ok false (by rw [hlv, h8]; rfl))]
                · refine ⟨i + 1, go (ok true (by rw [hlv, h8]; rfl)), by omega, ⟨_, by rw [ts, mapOf_snoc, if_pos hlv, mpPut_map _ _ h8]⟩, by rw [wrap_i64 (by omega) (by omega)]; rfl⟩
            · have hlv : live l[i] = false := by simp [live, h6]
              refine ⟨i + 1, go (ok true (by rw [hlv]; rfl)), by omega, ⟨_, by rw [ts, mapOf_snoc, if_neg (by rw [hlv]; decide)]⟩, by rw [wrap_i64 (by omega) (by omega)]; rfl⟩
        · rw [bad (by rw [okAt, hg]; simp only [h4]; simp)]
      · have : i = l.length := by have := toNot h3; omega
        subst this
        rw [ha]
  · have : validF l = false := by rw [validF, Bool.and_eq_false_iff]; left; have := toProp h1; simp; omega
    rw [this]
end Go.Proofs.YtjmldlknegbimaaGreatDoor.Sx
