/- few (of the laws of chapter 42); slices.Equal of addresses. -/
import Derived.Test.YtjmldlknegbimaaGreatDoorB19
set_option linter.unusedVariables false
set_option linter.unusedSimpArgs false
namespace Go.Proofs.YtjmldlknegbimaaGreatDoor.Sx
open Go Go.RowKit
variable {G : Gl}
def bigS (s : Strm) : Bool := decide (400 < (s.name.length : Int)) || decide (400 < (s.data.length : Int))
def idxS (l : List Strm) : Int := if l.any bigS = true then (l.findIdx bigS : Int) else -1
theorem idxS_pos (l : List Strm) : decide (0 ≤ idxS l) = l.any bigS := by
  unfold idxS
  cases l.any bigS <;> simp
def fewS (l : List Strm) : Bool := decide ((l.length : Int) ≤ 8) && !l.any bigS
end Go.Proofs.YtjmldlknegbimaaGreatDoor.Sx
