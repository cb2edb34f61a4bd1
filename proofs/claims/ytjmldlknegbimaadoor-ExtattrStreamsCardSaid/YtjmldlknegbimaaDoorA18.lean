/- A contract of the kit's own, over strings and numbers, as a contract of data. Own library, part 18. -/
import Derived.Test.YtjmldlknegbimaaDoorA17
set_option linter.unusedVariables false
set_option linter.unusedSimpArgs false
namespace Go.Proofs.YtjmldlknegbimaaDoor.Sx
open Go Go.RowKit

variable {P : Program} {G : Gl}

def valS : DV → Option Value
  | .str s => some (.string ⟨s.toArray⟩)
  | .int k n => some (.int k n)
  | .bool b => some (.bool b)
  | _ => none

theorem valS_rel {K : Mem} {d : DV} {v u : Value} (h : valS d = some v) (hr : Rel K d u) : u = v := by
  cases hr <;> simp [valS] at h <;> exact h

theorem agree_below {K : Mem} {w w' : World} (h : Agree K w) (hb : Below w.heap.size w w') : Agree K w' := fun a v e => by
  have hv := h a v e
  have hlt := h.lt e
  rw [← hv]
  simp only [World.cell?, hb.block _ hlt]

theorem PF.of_below {f : FuncId} {ds : List DV} {vs : List Value} {r : DV} {v : Value} (hok : fnOk P f = true) (hvs : ds.map valS = vs.map some) (hv : ∀ K, Rel K r v)
    (h : ∀ w, Calls P f vs.toArray w fun e w' => e = .returned v ∧ Below w.heap.size w w') : PF P G f ds r := by
  intro H
  refine ⟨hok, fun X K ι w us hsr hG hl hr => ?_⟩
  have hlen : ds.length = vs.length := by have := congrArg List.length hvs; simpa using this
  have : us = vs.toArray := by
    apply Array.ext
    · simp at hl; simp [hl, hlen]
    · intro i h1 h2
      have hi : i < ds.length := by simp at hl; omega
      have hi2 : i < vs.length := by omega
      have h3 := hr i (by simpa using hi)
      rw [getD_map' AV.d ds i .nilp _ hi] at h3
      have h4 : valS ds[i] = some vs[i] := by
        have := congrArg (fun l => l[i]?) hvs
        simpa [hi, hi2] using this
      have h5 := valS_rel h4 (by simpa [List.getD_eq_getElem?_getD, hi] using h3.get)
      simp [Array.getD, h1] at h5
      simpa using h5
  subst this
  refine (h w).mono ?_
  rintro e w' ⟨rfl, hb⟩
  exact ⟨v, rfl, K, ι, hsr.ext ⟨Mem.le_refl K, fun _ _ => rfl, agree_below hsr.agree hb, hb⟩, .d _ _ (hv K), Mem.le_refl K, Pls.le_refl _ _, Nat.le_refl _⟩

end Go.Proofs.YtjmldlknegbimaaDoor.Sx
