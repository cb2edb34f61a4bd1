/- Entries of a directory out of what is read. -/
import Derived.Test.YtjmldlknegbimaaGreatDoorW2
set_option linter.unusedVariables false
set_option linter.unusedSimpArgs false
namespace Go.Proofs.YtjmldlknegbimaaGreatDoor.Sx
open Go Go.RowKit
def shFid : Sh := .st [.str, .bool, .bool, .bool, .bool, .bool, shAddr, .int .i64]
theorem bears57 : Bears Tryz.prog shFid 25 := bears_of (by kernel_rfl)
theorem bears44 : Bears Tryz.prog (.sl shFid) 36 := bears_of (by kernel_rfl)
theorem has_fid' {ds : List DV} (h : Has shFid ds) : ∃ a : Ent, ds = entEl a := by
  obtain ⟨a0, b0, rfl, ⟨n, rfl, _⟩, a1, b1, rfl, ⟨c1, rfl⟩, a2, b2, rfl, ⟨c2, rfl⟩, a3, b3, rfl, ⟨c3, rfl⟩, a4, b4, rfl, ⟨c4, rfl⟩, a5, b5, rfl, ⟨c5, rfl⟩, a6, b6, rfl, h6, a7, b7, rfl, ⟨u, rfl, _⟩, rfl⟩ := h
  obtain ⟨⟨x, y⟩, rfl, _⟩ := has_addr h6
  exact ⟨⟨n, c1, c2, c3, c4, c5, x, y, u⟩, rfl⟩
theorem has_fid {ds : List DV} (h : Has shFid ds) : ∃ a : Ent, ds = entEl a ∧ a.name.length ≤ maxLen := by
  obtain ⟨a0, b0, rfl, ⟨n, rfl, hn⟩, a1, b1, rfl, ⟨c1, rfl⟩, a2, b2, rfl, ⟨c2, rfl⟩, a3, b3, rfl, ⟨c3, rfl⟩, a4, b4, rfl, ⟨c4, rfl⟩, a5, b5, rfl, ⟨c5, rfl⟩, a6, b6, rfl, h6, a7, b7, rfl, ⟨u, rfl, _⟩, rfl⟩ := h
  obtain ⟨⟨x, y⟩, rfl, _⟩ := has_addr h6
  exact ⟨⟨n, c1, c2, c3, c4, c5, x, y, u⟩, rfl, hn⟩
theorem has_fids {ds : List DV} (h : Has (.sl shFid) ds) : ∃ l : List Ent, ds = [.sl .any (l.map entEl)] ∧ l.length ≤ maxLen :=
  has_list entEl shFid (fun x hx => has_fid' hx) h
theorem fids_lt {l : List Ent} (h : l.length ≤ maxLen) : l.length < 2 ^ 63 := by unfold maxLen at h; omega
theorem bears36 : Bears Tryz.prog (.sl (.int .i64)) 37 := bears_of (by kernel_rfl)
theorem has_ints {ds : List DV} (h : Has (.sl (.int .i64)) ds) : ∃ l : List Int, ds = [.sl .any (l.map intEl)] ∧ l.length ≤ maxLen :=
  has_list intEl (.int .i64) (fun x hx => by obtain ⟨n, rfl, _⟩ := hx; exact ⟨n, rfl⟩) h
theorem ints_lt {l : List Int} (h : l.length ≤ maxLen) : l.length < 2 ^ 63 := by unfold maxLen at h; omega
end Go.Proofs.YtjmldlknegbimaaGreatDoor.Sx
