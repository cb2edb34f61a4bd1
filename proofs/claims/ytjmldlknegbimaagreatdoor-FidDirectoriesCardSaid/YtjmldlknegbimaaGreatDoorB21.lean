/- The reference's Lookup and Valid of directories; its Streams and Names. -/
import Derived.Test.YtjmldlknegbimaaGreatDoorB20
set_option linter.unusedVariables false
set_option linter.unusedSimpArgs false
namespace Go.Proofs.YtjmldlknegbimaaGreatDoor.Sx
open Go Go.RowKit
variable {G : Gl}
def hits (n : List UInt8) (g : Ent) : Bool := live g && (g.name == n)
def lookI (l : List Ent) (n : List UInt8) : Int := if seenB l n = true then (l.findIdx (hits n) : Int) else -1
theorem lookI_at {l : List Ent} {n : List UInt8} {i : Nat} (hi : i < l.length) (h : hits n l[i] = true) (hb : ∀ j (hj : j < l.length), j < i → hits n l[j] = false) : lookI l n = i := by
  have hany : seenB l n = true := List.any_eq_true.2 ⟨l[i], by simp, h⟩
  have hidx : l.findIdx (hits n) = i := (List.findIdx_eq hi).2 ⟨h, fun j hj => hb j (by omega) hj⟩
  rw [lookI, if_pos hany, hidx]
theorem lookI_none {l : List Ent} {n : List UInt8} (hb : ∀ j (hj : j < l.length), hits n l[j] = false) : lookI l n = -1 := by
  have hn : seenB l n = false := by
    unfold seenB
    rw [List.any_eq_false]
    intro x hx
    obtain ⟨j, hj, rfl⟩ := List.mem_iff_getElem.1 hx
    have := hb j hj
    unfold hits at this
    rw [this]; decide
  rw [lookI, if_neg (by rw [hn]; decide)]
theorem lookI_first (l : List Ent) (i : Nat) (hi : i < l.length) (hl : live l[i] = true) : decide (lookI l l[i].name = (i : Int)) = !seenB (l.take i) l[i].name := by
  have hh : hits l[i].name l[i] = true := by simp [hits, hl]
  cases hs : seenB (l.take i) l[i].name with
  | false =>
    unfold seenB at hs
    rw [List.any_eq_false] at hs
    have : lookI l l[i].name = i := lookI_at hi hh fun j hj hji => by
      have := hs l[j] (by rw [List.mem_take_iff_getElem]; exact ⟨j, by omega, rfl⟩)
      simpa [hits] using this
    simp [this]
  | true =>
    unfold seenB at hs
    rw [List.any_eq_true] at hs
    obtain ⟨x, hx, hx2⟩ := hs
    obtain ⟨j, hj, rfl⟩ := List.mem_take_iff_getElem.1 hx
    have hany : seenB l l[i].name = true := List.any_eq_true.2 ⟨l[i], by simp, hh⟩
    have : l.findIdx (hits l[i].name) ≤ j := by
      apply Nat.le_of_not_lt
      intro hc
      have := List.not_of_lt_findIdx hc
      unfold hits at this
      rw [hx2] at this
      contradiction
    have hne : lookI l l[i].name ≠ (i : Int) := by
      rw [lookI, if_pos hany]
      omega
    simp [hne]
end Go.Proofs.YtjmldlknegbimaaGreatDoor.Sx
