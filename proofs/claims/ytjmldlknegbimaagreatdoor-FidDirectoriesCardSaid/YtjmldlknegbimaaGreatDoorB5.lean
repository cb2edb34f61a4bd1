/- Attributes: what the functions compute. -/
import Derived.Test.YtjmldlknegbimaaGreatDoorB4
set_option linter.unusedVariables false
set_option linter.unusedSimpArgs false
namespace Go.Proofs.YtjmldlknegbimaaGreatDoor.Sx
open Go Go.RowKit
variable {G : Gl}

structure Attr where
  ty : Int
  sub : Int
  data : List UInt8
  deriving DecidableEq
instance : Inhabited Attr := ⟨⟨0, 0, []⟩⟩
def attrEl (a : Attr) : List DV := [.int .i64 a.ty, .int .i64 a.sub, .str a.data]
@[go_sem] theorem attrEl_len (a : Attr) : (attrEl a).length = 3 := rfl
@[go_sem] theorem attrEl_map (a : Attr) : (attrEl a).map AV.d = [.d (.int .i64 a.ty), .d (.int .i64 a.sub), .d (.str a.data)] := rfl
@[go_sem] theorem attrEl_szOk (l : List Attr) : szOk 3 (l.map attrEl) = true := by simp [szOk, attrEl]
@[go_sem] theorem attrEl_elOk (l : List Attr) : elOk 3 (l.map attrEl) = true := by simp [elOk, attrEl, oneD, oneA]
def attrV (a : Attr) : DV := .agg [.int .i64 a.ty, .int .i64 a.sub, .str a.data]
def attrOk (a : Attr) : Bool := decide (0 ≤ a.ty ∧ a.ty < 4294967296) && (decide (0 ≤ a.sub ∧ a.sub ≤ 255) && decide (a.data.length ≤ 2000))
def attrLen (a : Attr) : Nat := (a.data.length + 19) / 4 * 4
def attrBytes (a : Attr) : List UInt8 := leN 4 a.ty ++ leN 1 a.sub ++ [0, 0, 0] ++ leN 4 (attrLen a) ++ leN 4 a.data.length ++ a.data ++ List.replicate (attrLen a - 16 - a.data.length) 0
def attrLt (a b : Attr) : Bool := decide (a.ty < b.ty) || (decide (a.ty = b.ty) && decide (a.sub < b.sub))
def fewA (l : List Attr) : Bool := (List.range l.length).all (fun i => decide ((l.getD i default).data.length ≤ 2100)) && decide (l.length ≤ 20)
theorem range_all_succ (p : Nat → Bool) (i : Nat) : (List.range (i + 1)).all p = ((List.range i).all p && p i) := by simp [List.range_succ]
theorem range_all_false (p : Nat → Bool) (i n : Nat) (hi : i < n) (h : p i = false) : (List.range n).all p = false := by
  rw [List.all_eq_false]
  exact ⟨i, by simpa using hi, by simp [h]⟩
def validA (l : List Attr) : Bool := (List.range l.length).all (fun i => attrOk (l.getD i default) && (decide (i = 0) || attrLt (l.getD (i - 1) default) (l.getD i default))) && decide (l.length ≤ 16)
end Go.Proofs.YtjmldlknegbimaaGreatDoor.Sx
