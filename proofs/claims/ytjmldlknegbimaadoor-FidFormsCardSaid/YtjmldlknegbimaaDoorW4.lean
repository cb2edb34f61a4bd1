/- Lists of numbers out of what is read. -/
import Derived.Test.YtjmldlknegbimaaDoorW3
set_option linter.unusedVariables false
set_option linter.unusedSimpArgs false
namespace Go.Proofs.YtjmldlknegbimaaDoor.Sx
open Go Go.RowKit
theorem bears36 : Bears Tryd.prog (.sl (.int .i64)) 36 := bears_of (by kernel_rfl)
theorem has_ints {ds : List DV} (h : Has (.sl (.int .i64)) ds) : ∃ l : List Int, ds = [.sl .any (l.map intEl)] ∧ l.length ≤ maxLen :=
  has_list intEl (.int .i64) (fun x hx => by obtain ⟨n, rfl, _⟩ := hx; exact ⟨n, rfl⟩) h
theorem ints_lt {l : List Int} (h : l.length ≤ maxLen) : l.length < 2 ^ 63 := by unfold maxLen at h; omega
end Go.Proofs.YtjmldlknegbimaaDoor.Sx
