/- Spaces of attributes by the reference: what Encode computes. -/
import Derived.Test.YtjmldlknegbimaaGreatDoorB5
set_option linter.unusedVariables false
set_option linter.unusedSimpArgs false
namespace Go.Proofs.YtjmldlknegbimaaGreatDoor.Sx
open Go Go.RowKit
variable {G : Gl}

structure EncS where
  b : List UInt8
  o1 : Int
  o2 : Int
def encStep (s : EncS) (a : Attr) : EncS :=
  ⟨s.b ++ attrBytes a, if 2048 ≤ a.ty ∧ s.o1 = 4294967295 then 24 + s.b.length else s.o1, if 65536 ≤ a.ty ∧ s.o2 = 4294967295 then 24 + s.b.length else s.o2⟩
def encS (l : List Attr) : EncS := l.foldl encStep ⟨[], 4294967295, 4294967295⟩
theorem encS_succ (l : List Attr) (i : Nat) (h : i < l.length) : encS (l.take (i + 1)) = encStep (encS (l.take i)) l[i] := foldl_take_succ _ _ _ _ h
theorem attrBytes_len (a : Attr) (h : attrOk a = true) : (attrBytes a).length ≤ 2100 := by
  simp only [attrOk, Bool.and_eq_true, decide_eq_true_eq] at h
  simp only [attrBytes, List.length_append, leN_len, List.length_replicate, List.length_cons, List.length_nil]
  unfold attrLen; omega
theorem validA_ok (l : List Attr) (h : validA l = true) (i : Nat) (hi : i < l.length) : attrOk l[i] = true := by
  simp only [validA, Bool.and_eq_true, List.all_eq_true] at h
  have := h.1 i (by simpa using hi)
  rw [show l.getD i default = l[i] by simp [List.getD_eq_getElem?_getD, hi]] at this
  exact this.1
theorem validA_len (l : List Attr) (h : validA l = true) : l.length ≤ 16 := by
  simp only [validA, Bool.and_eq_true, decide_eq_true_eq] at h
  exact h.2
theorem encS_inv (l : List Attr) (h : validA l = true) : ∀ i, i ≤ l.length → (encS (l.take i)).b.length ≤ 2100 * i ∧
    ((encS (l.take i)).o1 = 4294967295 ∨ (0 ≤ (encS (l.take i)).o1 ∧ (encS (l.take i)).o1 ≤ 24 + (encS (l.take i)).b.length)) ∧
    ((encS (l.take i)).o2 = 4294967295 ∨ (0 ≤ (encS (l.take i)).o2 ∧ (encS (l.take i)).o2 ≤ 24 + (encS (l.take i)).b.length)) := by
  intro i
  induction i with
  | zero => intro _; simp [encS]
  | succ i ih =>
    intro hi
    obtain ⟨h1, h2, h3⟩ := ih (by omega)
    have hb := attrBytes_len _ (validA_ok l h i (by omega))
    rw [encS_succ l i (by omega)]
    simp only [encStep, List.length_append]
    refine ⟨by omega, ?_, ?_⟩
    · split <;> omega
    · split <;> omega
def encV (l : List Attr) (loc : Int) : DV :=
  if validA l = true then
    if (decide (0 ≤ loc) && decide (loc < 4294967296)) = true then
      if l.length = 0 then .tup [.str [], .int .i64 0]
      else if 2048 < 24 + (encS l).b.length then .tup [.str [], .int .i64 7]
      else sealV 262 1 loc (leN 4 (encS l).o1 ++ leN 4 (encS l).o2 ++ (encS l).b)
    else .tup [.str [], .int .i64 2]
  else .tup [.str [], .int .i64 1]
end Go.Proofs.YtjmldlknegbimaaGreatDoor.Sx
