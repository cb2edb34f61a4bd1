/- A world in which the two listed tables lie as their texts lay them; what all rows of this seat share. -/
import Derived.Test.YtjmldlknegbimaaGreatDoorCards
import Derived.Test.YtjmldlknegbimaaGreatDoorTie
import Derived.Test.YtjmldlknegbimaaGreatDoorR1
import Derived.Test.YtjmldlknegbimaaGreatDoorT0
import Derived.WalkKit
import Derived.ProofKit
import Derived.OpenShut
import Derived.Deep.DeepHandedRow
import Derived.Lib.LaidTab
set_option linter.unusedVariables false
set_option linter.unusedSimpArgs false
namespace Go.Proofs.YtjmldlknegbimaaGreatDoor.Sx
open Go Go.RowKit

theorem own : ownKnob Tryz.prog.godebug = none := by kernel_rfl
theorem laidOut : laidOutB Tryz.prog = true := by kernel_rfl
def u8cells (l : List Nat) : Array Value := (l.map fun (n : Nat) => Value.int .u8 n).toArray
def laidObj (cs : Array Value) : Obj → Obj
  | .cells _ t frozen => .cells cs t frozen
  | o => o
/-- The settled world, the two tables (blocks 1 and 2) holding what the listed data say. -/
noncomputable def laidWorld (os : Os) : World :=
  let w0 := World.holding Tryz.prog os ⟨#[], #[], []⟩
  { w0 with heap := (w0.heap.modify 1 (laidObj (u8cells Go.Pinned.utf8FirstZ))).modify 2 (laidObj (u8cells [128, 191, 160, 191, 128, 159, 144, 191, 128, 143, 0, 0, 0, 0, 0, 0, 0, 0, 0, 0, 0, 0, 0, 0, 0, 0, 0, 0, 0, 0, 0, 0])) }
/-- The types of the laws' parameters. -/
abbrev rowTypes : List TypeId := [3, 9, 25, 36, 37]
theorem int_params : ∀ t ∈ rowTypes, Tryz.prog.readableRec t = true ∧ t < Tryz.prog.types.size := by
  intro t ht
  simp only [rowTypes, List.mem_cons, List.mem_nil_iff, or_false] at ht
  rcases ht with rfl | rfl | rfl | rfl | rfl <;> exact ⟨by kernel_rfl, of_decide_eq_true (by kernel_rfl)⟩
def shInt : Sh := .int .i64
theorem bears3 : Bears Tryz.prog shInt 3 := bears_of (by kernel_rfl)
theorem bears9 : Bears Tryz.prog .str 9 := bears_of (by kernel_rfl)
theorem world_vars (os : Os) (args : Array Value) : ((laidWorld os).forCall (fun _ _ => 0) ⟨#[], args, []⟩).variablesB Tryz.checked.prog = true := by kernel_rfl
theorem world_rest (os : Os) (args : Array Value) : ((((laidWorld os).forCall (fun _ _ => 0) ⟨#[], args, []⟩).heap.toList.drop Tryz.checked.prog.globals.size).take ((begin Tryz.checked.prog (fun _ _ => 0) default).world.heap.size - Tryz.checked.prog.globals.size) =
      (begin Tryz.checked.prog (fun _ _ => 0) default).world.heap.toList.drop Tryz.checked.prog.globals.size) := by kernel_rfl
def laidList : List (String × DataW Unit) := [("unicode/utf8.acceptRanges", Rows.laid_unicode_utf8_acceptRanges), ("unicode/utf8.first", Rows.laid_unicode_utf8_first)]
theorem laid_met (os : Os) (args : Array Value) : laidMet Tryz.prog laidList ((laidWorld os).forCall (fun _ _ => 0) ⟨#[], args, []⟩).memory := laidMet_of_run' 8 (by kernel_rfl) (by kernel_rfl)
theorem no_looks : false = Tryz.pinned.checked.prog.looks [] := by kernel_rfl
theorem no_standIn : ∀ t ∈ rowTypes, Tryz.pinned.checked.prog.wantsStandIn t = false := by
  intro t ht
  simp only [rowTypes, List.mem_cons, List.mem_nil_iff, or_false] at ht
  rcases ht with rfl | rfl | rfl | rfl | rfl
  · exact (show Tryz.prog.wantsStandIn 3 = false by kernel_rfl)
  · exact (show Tryz.prog.wantsStandIn 9 = false by kernel_rfl)
  · exact (show Tryz.prog.wantsStandIn 25 = false by kernel_rfl)
  · exact (show Tryz.prog.wantsStandIn 36 = false by kernel_rfl)
  · exact (show Tryz.prog.wantsStandIn 37 = false by kernel_rfl)
end Go.Proofs.YtjmldlknegbimaaGreatDoor.Sx
