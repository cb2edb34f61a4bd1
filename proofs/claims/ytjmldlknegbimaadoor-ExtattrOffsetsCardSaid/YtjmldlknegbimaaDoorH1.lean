/- Lists of attributes out of what is read. -/
import Derived.Test.YtjmldlknegbimaaDoorW1
import Derived.Test.YtjmldlknegbimaaDoorC2
set_option linter.unusedVariables false
set_option linter.unusedSimpArgs false
namespace Go.Proofs.YtjmldlknegbimaaDoor.Sx
open Go Go.RowKit
theorem has_attrs {ds : List DV} (h : Has (.sl shAttr) ds) : ∃ l : List Attr, ds = [.sl .any (l.map attrEl)] ∧ l.length ≤ maxLen := by
  obtain ⟨es, rfl, hl, he⟩ := h
  have : ∀ es : List (List DV), (∀ x ∈ es, Has shAttr x) → ∃ l : List Attr, es = l.map attrEl := by
    intro es
    induction es with
    | nil => intro _; exact ⟨[], rfl⟩
    | cons x r ih =>
      intro h
      obtain ⟨l, hl⟩ := ih (fun y hy => h y (by simp [hy]))
      obtain ⟨a, b, rfl, ⟨n, rfl, _⟩, c, d, rfl, ⟨m, rfl, _⟩, e, f, rfl, ⟨s, rfl, _⟩, rfl⟩ := h x (by simp)
      exact ⟨⟨n, m, s⟩ :: l, by simp [hl, attrEl]⟩
  obtain ⟨l, hl'⟩ := this es he
  subst hl'
  exact ⟨l, rfl, by simpa using hl⟩
theorem maxLen_lt {n : Nat} (h : n ≤ maxLen) : n < 2 ^ 63 := Nat.lt_of_le_of_lt h (of_decide_eq_true (by kernel_rfl))
end Go.Proofs.YtjmldlknegbimaaDoor.Sx
