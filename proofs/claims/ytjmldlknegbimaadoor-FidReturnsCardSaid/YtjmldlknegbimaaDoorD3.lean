/- Plain laws of directories: decoding what was encoded; offsets. -/
import Derived.Test.YtjmldlknegbimaaDoorD2
set_option linter.unusedVariables false
set_option linter.unusedSimpArgs false
namespace Go.Proofs.YtjmldlknegbimaaDoor.Sx
open Go Go.RowKit
theorem enf_cases (f : Ent) (loc : Int) : (enfE f loc ≠ 0 ∧ enfS f loc = []) ∨
    (enfE f loc = 0 ∧ entOk f = true ∧ (0 ≤ loc ∧ loc < 4294967296) ∧ enfS f loc = summed (tagHead 257 1 loc (fidBody f)) ++ fidBody f ∧ (enfS f loc).length = sizeN f) := by
  unfold enfE enfS
  by_cases h1 : entOk f = true
  · by_cases h2 : wordB loc = true
    · by_cases h3 : rangedB 257 1 loc = true
      · obtain ⟨hb1, hb2, hb3, hb4, hb5⟩ := fidBody_len f h1
        have h4 : ¬ 65535 < (fidBody f).length := by omega
        rw [if_pos h1, if_pos h1, if_pos h2, if_pos h2, if_pos h3, if_pos h3, if_neg h4, if_neg h4]
        simp only [wordB, Bool.and_eq_true, decide_eq_true_eq] at h2
        refine .inr ⟨rfl, h1, h2, rfl, ?_⟩
        rw [tagZ_eq, List.length_append, tagZ_len, hb1]; omega
      · rw [if_pos h1, if_pos h1, if_pos h2, if_pos h2, if_neg h3, if_neg h3]
        exact .inl ⟨by decide, rfl⟩
    · rw [if_pos h1, if_pos h1, if_neg h2, if_neg h2]
      exact .inl ⟨by decide, rfl⟩
  · rw [if_neg h1, if_neg h1]
    exact .inl ⟨by decide, rfl⟩
/-- What one entry written means. -/
theorem encL_cons {bl : List Int} {f : Ent} {r : List Ent} {acc b : List UInt8} (h : encL bl (f :: r) acc = (b, 0)) :
    entOk f = true ∧ hasB bl acc.length = true ∧ enfE f (locB bl acc.length) = 0 ∧ (enfS f (locB bl acc.length)).length = sizeN f ∧ 38 ≤ sizeN f ∧ encL bl r (acc ++ enfS f (locB bl acc.length)) = (b, 0) ∧
      ∀ rest, decF (enfS f (locB bl acc.length) ++ rest) (locB bl acc.length) = some (f, sizeN f) := by
  rw [encL] at h
  by_cases h1 : entOk f = false
  · rw [if_pos h1] at h; simp at h
  by_cases h2 : hasB bl acc.length = false
  · rw [if_neg h1, if_pos h2] at h; simp at h
  by_cases h3 : enfE f (locB bl acc.length) = 0
  · rw [if_neg h1, if_neg h2, if_pos h3] at h
    rcases enf_cases f (locB bl acc.length) with ⟨c, _⟩ | ⟨_, c2, c3, c4, c5⟩
    · exact absurd h3 c
    · have := fidBody_len f c2
      refine ⟨c2, by simpa using h2, h3, c5, this.2.1, h, fun rest => ?_⟩
      rw [c4]; exact decF_enc f _ rest c2 c3
  · rw [if_neg h1, if_neg h2, if_neg h3] at h
    simp at h
    exact absurd h.2 h3
theorem encL_pre {bl : List Int} : ∀ {l : List Ent} {acc b : List UInt8}, encL bl l acc = (b, 0) → ∃ t, b = acc ++ t ∧ 38 * l.length ≤ t.length
  | [], acc, b, h => by
    rw [encL] at h
    simp only [Prod.mk.injEq, and_true] at h
    exact ⟨[], by rw [← h, List.append_nil], Nat.zero_le _⟩
  | f :: r, acc, b, h => by
    obtain ⟨_, _, _, c4, c5, c6, _⟩ := encL_cons h
    obtain ⟨t, rfl, ht⟩ := encL_pre c6
    exact ⟨enfS f (locB bl acc.length) ++ t, by rw [List.append_assoc], by rw [List.length_append, c4, List.length_cons]; omega⟩
theorem encL_bad {bl : List Int} : ∀ {l : List Ent} {acc : List UInt8}, (encL bl l acc).2 ≠ 0 → (encL bl l acc).1 = []
  | [], acc, h => by rw [encL] at h; exact absurd rfl h
  | f :: r, acc, h => by
    rw [encL] at h ⊢
    by_cases h1 : entOk f = false
    · rw [if_pos h1]
    by_cases h2 : hasB bl acc.length = false
    · rw [if_neg h1, if_pos h2]
    by_cases h3 : enfE f (locB bl acc.length) = 0
    · rw [if_neg h1, if_neg h2, if_pos h3] at h ⊢
      exact encL_bad h
    · rw [if_neg h1, if_neg h2, if_neg h3]
theorem scan_enc {bl : List Int} : ∀ {l : List Ent} {acc b : List UInt8} {k cnt : Nat}, encL bl l acc = (b, 0) → cnt + l.length ≤ 1024 → l.length < k → scanN b bl k acc.length cnt = (0, l, ent0)
  | [], acc, b, k, cnt, h, hc, hk => by
    rw [encL] at h
    simp only [Prod.mk.injEq, and_true] at h
    rw [h]
    exact scanN_end k (Nat.lt_irrefl _)
  | f :: r, acc, b, k, cnt, h, hc, hk => by
    obtain ⟨c1, c2, c3, c4, c5, c6, c7⟩ := encL_cons h
    obtain ⟨t, ht, _⟩ := encL_pre c6
    obtain ⟨k, rfl⟩ : ∃ k', k = k' + 1 := ⟨k - 1, by omega⟩
    simp only [List.length_cons] at hc hk
    have hd : b.drop acc.length = enfS f (locB bl acc.length) ++ t := by rw [ht, List.append_assoc, List.drop_left]
    have hlt : acc.length < b.length := by rw [ht, List.length_append, List.length_append, c4]; omega
    have ih := scan_enc (k := k) (cnt := cnt + 1) c6 (by omega) (by omega)
    rw [List.length_append, c4] at ih
    rw [scanN_go k hlt (by omega) c2 (by rw [hd]; exact c7 t), ih]
theorem decAll_enc {bl : List Int} {l : List Ent} {b : List UInt8} (h : encAllP l bl = (b, 0)) : decAllV b bl = .tup [.sl .any (l.map entEl), .int .i64 0] ∧ b.length < 2 ^ 30 := by
  unfold encAllP at h
  split at h
  · simp at h
  · rename_i hl
    obtain ⟨t, ht, hl2⟩ := encL_pre h
    have hs : scanF b bl = (0, l, ent0) := by
      unfold scanF
      exact scan_enc (acc := []) h (by omega) (by rw [ht, List.nil_append]; omega)
    have hb : ∀ {l : List Ent} {acc b : List UInt8}, encL bl l acc = (b, 0) → b.length ≤ acc.length + 65551 * l.length := by
      intro l
      induction l with
      | nil =>
        intro acc b h
        rw [encL] at h
        simp only [Prod.mk.injEq, and_true] at h
        rw [h]; simp
      | cons f r ih =>
        intro acc b h
        obtain ⟨_, _, _, c4, c5, c6, _⟩ := encL_cons h
        have := ih c6
        have h3 := enfS_le f (locB bl acc.length)
        rw [List.length_append] at this
        simp only [List.length_cons]
        omega
    have := hb h
    simp only [List.length_nil] at this
    exact ⟨by rw [decAllV, hs]; rfl, by omega⟩
theorem encL_app {bl : List Int} : ∀ {l : List Ent} {acc b : List UInt8} (m : List Ent), encL bl l acc = (b, 0) → encL bl (l ++ m) acc = encL bl m b
  | [], acc, b, m, h => by
    rw [encL] at h
    simp only [Prod.mk.injEq, and_true] at h
    rw [List.nil_append, h]
  | f :: r, acc, b, m, h => by
    obtain ⟨c1, c2, c3, c4, c5, c6, c7⟩ := encL_cons h
    rw [List.cons_append, encL, if_neg (by rw [c1]; decide), if_neg (by rw [c2]; decide), if_pos c3]
    exact encL_app m c6
theorem encL_shift {bl : List Int} (p : List UInt8) : ∀ {l : List Ent} {acc b : List UInt8}, encL bl l acc = (b, 0) → p.length + b.length ≤ 2048 → encL bl l (p ++ acc) = (p ++ b, 0)
  | [], acc, b, h, hb => by
    rw [encL] at h ⊢
    simp only [Prod.mk.injEq, and_true] at h ⊢
    rw [h]
  | f :: r, acc, b, h, hb => by
    obtain ⟨c1, c2, c3, c4, c5, c6, c7⟩ := encL_cons h
    obtain ⟨t, ht, _⟩ := encL_pre c6
    have hlen : b.length = acc.length + sizeN f + t.length := by rw [ht, List.length_append, List.length_append, c4]
    have d1 : (p ++ acc).length / 2048 = acc.length / 2048 := by rw [List.length_append]; omega
    have l1 : locB bl (p ++ acc).length = locB bl acc.length := by unfold locB; rw [d1]
    have l2 : hasB bl (p ++ acc).length = hasB bl acc.length := by unfold hasB; rw [d1]
    rw [encL, l1, l2, if_neg (by rw [c1]; decide), if_neg (by rw [c2]; decide), if_pos c3, List.append_assoc]
    exact encL_shift p c6 hb
end Go.Proofs.YtjmldlknegbimaaDoor.Sx
