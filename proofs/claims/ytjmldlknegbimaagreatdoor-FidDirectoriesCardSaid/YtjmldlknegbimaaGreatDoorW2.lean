/- The listed tables are what GT says; streams and addresses out of what is read. -/
import Derived.Test.YtjmldlknegbimaaGreatDoorW1
import Derived.Test.YtjmldlknegbimaaGreatDoorB20
set_option linter.unusedVariables false
set_option linter.unusedSimpArgs false
namespace Go.Proofs.YtjmldlknegbimaaGreatDoor.Sx
open Go Go.RowKit Go.Shelf Go.Lib
theorem first_data : Rows.laid_unicode_utf8_first = Lib.firstData := by kernel_rfl
theorem accept_data : (Rows.laid_unicode_utf8_acceptRanges : DataW Unit) = Lib.acceptData := by kernel_rfl
theorem gt_ok {W : World} (hL : laidMetH Tryz.prog laidList W) : GOk (memOf W) GT := by
  have h : laidMet Tryz.prog laidList W := hL
  have h3 : VarReads Tryz.prog W "unicode/utf8.first" Lib.firstData := by
    rw [← first_data]; exact laidMet.reads h (by simp [laidList])
  have h4 : VarReads Tryz.prog W "unicode/utf8.acceptRanges" Lib.acceptData := by
    rw [← accept_data]; exact laidMet.reads h (by simp [laidList])
  have ht : Lib.Utf8Tabs 1 2 W := utf8Tabs_of_reads (ρ := Tryz.laysDecode_ren) { Tryz.laysDecode with } Tryz.u8Extra h3 h4
  intro g cs e
  unfold GT at e
  split at e
  · rename_i hg
    subst hg
    simp only [Option.some.injEq] at e; subst e
    have := Rel.eptr (K := memOf W) tabF 0 ⟨1, 0, none⟩ (fun j => .int .u8 (Lib.firstT j : Nat)) (fun j hj => by
      have hj : j < 256 := by simpa [tabF] using hj
      rw [Addr.add_mk, Nat.zero_add]; exact ht.1 j hj) (fun j hj => by
      have hj : j < 256 := by simpa [tabF] using hj
      rw [tabF, getD_map_range _ _ _ hj]; exact .int _ _)
    simpa [Addr.add] using this
  · split at e
    · rename_i hg
      subst hg
      simp only [Option.some.injEq] at e; subst e
      have := Rel.eptr (K := memOf W) tabA 0 ⟨2, 0, none⟩ (fun j => .int .u8 ((if j % 2 = 0 then Lib.accLo (j / 2) else Lib.accHi (j / 2) : Nat) : Int)) (fun j hj => by
        have hj : j < 32 := by simpa [tabA] using hj
        rw [Addr.add_mk, Nat.zero_add]
        have := ht.2 (j / 2) (by omega)
        by_cases hp : j % 2 = 0
        · rw [if_pos hp]
          have e2 : 2 * (j / 2) = j := by omega
          rw [e2] at this; exact this.1
        · rw [if_neg hp]
          have e2 : 2 * (j / 2) + 1 = j := by omega
          rw [e2] at this; exact this.2) (fun j hj => by
        have hj : j < 32 := by simpa [tabA] using hj
        rw [tabA, getD_map_range _ _ _ hj]; exact .int _ _)
      simpa [Addr.add] using this
    · contradiction
def shAddr : Sh := .st [.int .i64, .int .i64]
theorem has_addr {ds : List DV} (h : Has shAddr ds) : ∃ a : Int × Int, ds = adEl a ∧ True := by
  obtain ⟨a, b, rfl, ⟨n, rfl, _⟩, c, d, rfl, ⟨m, rfl, _⟩, rfl⟩ := h
  exact ⟨(n, m), rfl, trivial⟩
theorem has_list {α : Type} (f : α → List DV) (s : Sh) (hf : ∀ x, Has s x → ∃ a, x = f a) {ds : List DV} (h : Has (.sl s) ds) : ∃ l : List α, ds = [.sl .any (l.map f)] ∧ l.length ≤ maxLen := by
  obtain ⟨es, rfl, hl, he⟩ := h
  have : ∀ es : List (List DV), (∀ x ∈ es, Has s x) → ∃ l : List α, es = l.map f := by
    intro es
    induction es with
    | nil => intro _; exact ⟨[], rfl⟩
    | cons x r ih =>
      intro h
      obtain ⟨l, hl⟩ := ih (fun y hy => h y (by simp [hy]))
      obtain ⟨a, ha⟩ := hf x (h x (by simp))
      exact ⟨a :: l, by simp [hl, ha]⟩
  obtain ⟨l, hl'⟩ := this es he
  subst hl'
  exact ⟨l, rfl, by simpa using hl⟩
end Go.Proofs.YtjmldlknegbimaaGreatDoor.Sx
