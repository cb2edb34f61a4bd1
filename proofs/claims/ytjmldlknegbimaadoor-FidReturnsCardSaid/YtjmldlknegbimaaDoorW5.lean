/- Lists of numbers out of what is read; the types of the rows that take them. -/
import Derived.Test.YtjmldlknegbimaaDoorW3
set_option linter.unusedVariables false
set_option linter.unusedSimpArgs false
namespace Go.Proofs.YtjmldlknegbimaaDoor.Sx
open Go Go.RowKit
theorem bears36 : Bears Tryd.prog (.sl (.int .i64)) 36 := bears_of (by kernel_rfl)
theorem has_ints {ds : List DV} (h : Has (.sl (.int .i64)) ds) : ∃ l : List Int, ds = [.sl .any (l.map intEl)] ∧ l.length ≤ maxLen :=
  has_list intEl (.int .i64) (fun x hx => by obtain ⟨n, rfl, _⟩ := hx; exact ⟨n, rfl⟩) h
theorem ints_lt {l : List Int} (h : l.length ≤ maxLen) : l.length < 2 ^ 63 := by unfold maxLen at h; omega
abbrev rowTypes2 : List TypeId := [3, 9, 44, 36, 57]
theorem int_params2 : ∀ t ∈ rowTypes2, Tryd.prog.readableRec t = true ∧ t < Tryd.prog.types.size := by
  intro t ht
  simp only [rowTypes2, List.mem_cons, List.mem_nil_iff, or_false] at ht
  rcases ht with rfl | rfl | rfl | rfl | rfl <;> exact ⟨by kernel_rfl, of_decide_eq_true (by kernel_rfl)⟩
theorem no_standIn2 : ∀ t ∈ rowTypes2, Tryd.pinned.checked.prog.wantsStandIn t = false := by
  intro t ht
  simp only [rowTypes2, List.mem_cons, List.mem_nil_iff, or_false] at ht
  rcases ht with rfl | rfl | rfl | rfl | rfl
  · exact (show Tryd.prog.wantsStandIn 3 = false by kernel_rfl)
  · exact (show Tryd.prog.wantsStandIn 9 = false by kernel_rfl)
  · exact (show Tryd.prog.wantsStandIn 44 = false by kernel_rfl)
  · exact (show Tryd.prog.wantsStandIn 36 = false by kernel_rfl)
  · exact (show Tryd.prog.wantsStandIn 57 = false by kernel_rfl)
end Go.Proofs.YtjmldlknegbimaaDoor.Sx
