/- The listed tables are what GT says; streams and addresses out of what is read. -/
import Derived.Test.YtjmldlknegbimaaDoorW1
import Derived.Test.YtjmldlknegbimaaDoorB20
set_option linter.unusedVariables false
set_option linter.unusedSimpArgs false
namespace Go.Proofs.YtjmldlknegbimaaDoor.Sx
open Go Go.RowKit Go.Shelf Go.Lib
theorem first_data : Rows.laid_unicode_utf8_first = Lib.firstData := by kernel_rfl
theorem accept_data : (Rows.laid_unicode_utf8_acceptRanges : DataW Unit) = Lib.acceptData := by kernel_rfl
theorem gt_ok {W : World} (hL : laidMetH Tryd.prog laidList W) : GOk (memOf W) GT := by
  have h : laidMet Tryd.prog laidList W := hL
  have h3 : VarReads Tryd.prog W "unicode/utf8.first" Lib.firstData := by
    rw [← first_data]; exact laidMet.reads h (by simp [laidList])
  have h4 : VarReads Tryd.prog W "unicode/utf8.acceptRanges" Lib.acceptData := by
    rw [← accept_data]; exact laidMet.reads h (by simp [laidList])
  have ht : Lib.Utf8Tabs 1 2 W := utf8Tabs_of_reads (ρ := Tryd.laysDecode_ren) { Tryd.laysDecode with } Tryd.u8Extra h3 h4
  intro g cs e
  unfold GT at e
  split at e
  · rename_i hg
    subst hg
    simp only [Option.some.injEq] at e; subst e
    have := Rel.eptr (K := memOf W) tabF 0 ⟨1, 0, none⟩ (fun j => .int .u8 (Lib.firstT j : Nat)) (fun j hj => by
      have hj : j < 256 := by simpa [tabF] using hj
      rw [Addr.add_mk, Nat.zero_add]; exact ht.1 j hj) (fun j hj => by
      have hj : j < 256 := by simpa [tabF] using hj
      rw [tabF, getD_map_range _ _ _ hj]; exact .int _ _)
    simpa [Addr.add] using this
  · split at e
    · rename_i hg
      subst hg
      simp only [Option.some.injEq] at e; subst e
      have := Rel.eptr (K := memOf W) tabA 0 ⟨2, 0, none⟩ (fun j => .int .u8 ((if j % 2 = 0 then Lib.accLo (j / 2) else Lib.accHi (j / 2) : Nat) : Int)) (fun j hj => by
        have hj : j < 32 := by simpa [tabA] using hj
        rw [Addr.add_mk, Nat.zero_add]
        have := ht.2 (j / 2) (by omega)
        by_cases hp : j % 2 = 0
        · rw [if_pos hp]
          have e2 : 2 * (j / 2) = j := by omega
          rw [e2] at this; exact this.1
        · rw [if_neg hp]
          have e2 : 2 * (j / 2) + 1 = j := by omega
          rw [e2] at this; exact this.2) (fun j hj => by
        have hj : j < 32 := by simpa [tabA] using hj
        rw [tabA, getD_map_range _ _ _ hj]; exact .int _ _)
      simpa [Addr.add] using this
    · contradiction
def shAddr : Sh := .st [.int .i64, .int .i64]
def shStrm : Sh := .st [.str, .str]
theorem bears41 : Bears Tryd.prog shAddr 41 := bears_of (by kernel_rfl)
theorem bears42 : Bears Tryd.prog (.sl shStrm) 42 := bears_of (by kernel_rfl)
theorem bears43 : Bears Tryd.prog (.sl shAddr) 43 := bears_of (by kernel_rfl)
theorem has_addr {ds : List DV} (h : Has shAddr ds) : ∃ a : Int × Int, ds = adEl a ∧ True := by
  obtain ⟨a, b, rfl, ⟨n, rfl, _⟩, c, d, rfl, ⟨m, rfl, _⟩, rfl⟩ := h
  exact ⟨(n, m), rfl, trivial⟩
theorem has_strm {ds : List DV} (h : Has shStrm ds) : ∃ a : Strm, ds = stEl a := by
  obtain ⟨a, b, rfl, ⟨n, rfl, _⟩, c, d, rfl, ⟨m, rfl, _⟩, rfl⟩ := h
  exact ⟨⟨n, m⟩, rfl⟩
theorem has_list {α : Type} (f : α → List DV) (s : Sh) (hf : ∀ x, Has s x → ∃ a, x = f a) {ds : List DV} (h : Has (.sl s) ds) : ∃ l : List α, ds = [.sl .any (l.map f)] ∧ l.length ≤ maxLen := by
  obtain ⟨es, rfl, hl, he⟩ := h
  have : ∀ es : List (List DV), (∀ x ∈ es, Has s x) → ∃ l : List α, es = l.map f := by
    intro es
    induction es with
    | nil => intro _; exact ⟨[], rfl⟩
    | cons x r ih =>
      intro h
      obtain ⟨l, hl⟩ := ih (fun y hy => h y (by simp [hy]))
      obtain ⟨a, ha⟩ := hf x (h x (by simp))
      exact ⟨a :: l, by simp [hl, ha]⟩
  obtain ⟨l, hl'⟩ := this es he
  subst hl'
  exact ⟨l, rfl, by simpa using hl⟩
theorem has_addrs {ds : List DV} (h : Has (.sl shAddr) ds) : ∃ l : List (Int × Int), ds = [.sl .any (l.map adEl)] ∧ l.length ≤ maxLen :=
  has_list adEl shAddr (fun x hx => by obtain ⟨a, ha, _⟩ := has_addr hx; exact ⟨a, ha⟩) h
theorem has_strms {ds : List DV} (h : Has (.sl shStrm) ds) : ∃ l : List Strm, ds = [.sl .any (l.map stEl)] ∧ l.length ≤ maxLen :=
  has_list stEl shStrm (fun x hx => has_strm hx) h
end Go.Proofs.YtjmldlknegbimaaDoor.Sx
