/- A world in which the two listed tables lie as their texts lay them; what all rows of this seat share. -/
import Derived.Test.YtjmldlknegbimaaDoorCards
import Derived.Test.YtjmldlknegbimaaDoorTie
import Derived.Test.YtjmldlknegbimaaDoorR1
import Derived.Test.YtjmldlknegbimaaDoorT0
import Derived.WalkKit
import Derived.ProofKit
import Derived.OpenShut
import Derived.Deep.DeepHandedRow
import Derived.Lib.LaidTab
set_option linter.unusedVariables false
set_option linter.unusedSimpArgs false
namespace Go.Proofs.YtjmldlknegbimaaDoor.Sx
open Go Go.RowKit

theorem own : ownKnob Tryd.prog.godebug = none := by kernel_rfl
theorem laidOut : laidOutB Tryd.prog = true := by kernel_rfl
def u8cells (l : List Nat) : Array Value := (l.map fun (n : Nat) => Value.int .u8 n).toArray
def laidObj (cs : Array Value) : Obj → Obj
  | .cells _ t frozen => .cells cs t frozen
  | o => o
/-- The settled world, the two tables (blocks 1 and 2) holding what the listed data say. -/
noncomputable def laidWorld (os : Os) : World :=
  let w0 := World.holding Tryd.prog os ⟨#[], #[], []⟩
  { w0 with heap := (w0.heap.modify 1 (laidObj (u8cells Go.Pinned.utf8FirstZ))).modify 2 (laidObj (u8cells [128, 191, 160, 191, 128, 159, 144, 191, 128, 143, 0, 0, 0, 0, 0, 0, 0, 0, 0, 0, 0, 0, 0, 0, 0, 0, 0, 0, 0, 0, 0, 0])) }
/-- The types of the laws' parameters. -/
abbrev rowTypes : List TypeId := [22, 3, 9, 41, 42, 43, 44, 57, 38, 10, 33]
theorem int_params : ∀ t ∈ rowTypes, Tryd.prog.readableRec t = true ∧ t < Tryd.prog.types.size := by
  intro t ht
  simp only [rowTypes, List.mem_cons, List.mem_nil_iff, or_false] at ht
  rcases ht with rfl | rfl | rfl | rfl | rfl | rfl | rfl | rfl | rfl | rfl | rfl <;> exact ⟨by kernel_rfl, of_decide_eq_true (by kernel_rfl)⟩
def shInt : Sh := .int .i64
theorem bears33 : Bears Tryd.prog (.int .u32) 33 := bears_of (by kernel_rfl)
def shAttr : Sh := .st [.int .i64, .int .i64, .str]
theorem bears22 : Bears Tryd.prog (.sl shAttr) 22 := bears_of (by kernel_rfl)
theorem bears3 : Bears Tryd.prog shInt 3 := bears_of (by kernel_rfl)
theorem bears9 : Bears Tryd.prog .str 9 := bears_of (by kernel_rfl)
theorem world_vars (os : Os) (args : Array Value) : ((laidWorld os).forCall (fun _ _ => 0) ⟨#[], args, []⟩).variablesB Tryd.checked.prog = true := by kernel_rfl
theorem world_rest (os : Os) (args : Array Value) : ((((laidWorld os).forCall (fun _ _ => 0) ⟨#[], args, []⟩).heap.toList.drop Tryd.checked.prog.globals.size).take ((begin Tryd.checked.prog (fun _ _ => 0) default).world.heap.size - Tryd.checked.prog.globals.size) =
      (begin Tryd.checked.prog (fun _ _ => 0) default).world.heap.toList.drop Tryd.checked.prog.globals.size) := by kernel_rfl
def laidList : List (String × DataW Unit) := [("unicode/utf8.acceptRanges", Rows.laid_unicode_utf8_acceptRanges), ("unicode/utf8.first", Rows.laid_unicode_utf8_first)]
theorem laid_met (os : Os) (args : Array Value) : laidMet Tryd.prog laidList ((laidWorld os).forCall (fun _ _ => 0) ⟨#[], args, []⟩).memory := laidMet_of_run' 8 (by kernel_rfl) (by kernel_rfl)
theorem no_looks : false = Tryd.pinned.checked.prog.looks [] := by kernel_rfl
theorem no_standIn : ∀ t ∈ rowTypes, Tryd.pinned.checked.prog.wantsStandIn t = false := by
  intro t ht
  simp only [rowTypes, List.mem_cons, List.mem_nil_iff, or_false] at ht
  rcases ht with rfl | rfl | rfl | rfl | rfl | rfl | rfl | rfl | rfl | rfl | rfl
  · exact (show Tryd.prog.wantsStandIn 22 = false by kernel_rfl)
  · exact (show Tryd.prog.wantsStandIn 3 = false by kernel_rfl)
  · exact (show Tryd.prog.wantsStandIn 9 = false by kernel_rfl)
  · exact (show Tryd.prog.wantsStandIn 41 = false by kernel_rfl)
  · exact (show Tryd.prog.wantsStandIn 42 = false by kernel_rfl)
  · exact (show Tryd.prog.wantsStandIn 43 = false by kernel_rfl)
  · exact (show Tryd.prog.wantsStandIn 44 = false by kernel_rfl)
  · exact (show Tryd.prog.wantsStandIn 57 = false by kernel_rfl)
  · exact (show Tryd.prog.wantsStandIn 38 = false by kernel_rfl)
  · exact (show Tryd.prog.wantsStandIn 10 = false by kernel_rfl)
  · exact (show Tryd.prog.wantsStandIn 33 = false by kernel_rfl)
end Go.Proofs.YtjmldlknegbimaaDoor.Sx
