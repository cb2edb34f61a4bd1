/- Memory of the call's own: boxes and tokens; how the abstract heap lies in the world; that each change of the one is a change of the other. Own library, part 7. -/
import Derived.Test.YtjmldlknegbimaaDoorA6
import Derived.Laws.AppendOwn
import Derived.MapKept
set_option linter.unusedVariables false
set_option linter.unusedSimpArgs false
namespace Go.Proofs.YtjmldlknegbimaaDoor.Sx
open Go Go.RowKit

structure Cxt where
  w0 : World
  K0 : Mem
  ι0 : Nat → Pl
  n0 : Nat

inductive HO where
  | box (cs : List AV)
  | tok (sz m : Nat)
  | dead
  | mp (es : List (List UInt8 × DV))

/-- A map keyed by strings: its entries, in the order in which they came. -/
def MpRel (K : Mem) : List (List UInt8 × DV) → List MapEntry → Prop
  | [], [] => True
  | (k, d) :: r, e :: es => e.key = .string ⟨k.toArray⟩ ∧ Rel K d e.val ∧ MpRel K r es
  | _, _ => False

theorem MpRel.mono {K K' : Mem} (h : Mem.le K K') : ∀ {es : List (List UInt8 × DV)} {l : List MapEntry}, MpRel K es l → MpRel K' es l
  | [], [], _ => trivial
  | (k, d) :: r, e :: es, ⟨h1, h2, h3⟩ => ⟨h1, h2.mono h, h3.mono h⟩

def mpOk (K : Mem) (w : World) (B : Nat) (pl : Pl) (es : List (List UInt8 × DV)) : Prop := B ≤ pl.block ∧ ∃ ents clock, w.heap[pl.block]? = some (.map ents clock) ∧ MpRel K es ents.toList

def boxOk (K : Mem) (ι : Nat → Pl) (n : Nat) (w : World) (B : Nat) (pl : Pl) (cs : List AV) : Prop :=
  B ≤ pl.block ∧ ∃ vs ty fz, w.heap[pl.block]? = some (.cells vs ty fz) ∧ vs.size = cs.length ∧ (∀ o, w.frozen? ⟨pl.block, o, none⟩ = false) ∧
    (∀ j, j < cs.length → RelA K ι n (cs.getD j .junk) (vs.getD j undef)) ∧ (∀ o, K ⟨pl.block, o, none⟩ = none)

def tokOk (K : Mem) (w : World) (B : Nat) (pl : Pl) (sz m : Nat) : Prop :=
  pl.len = m ∧ ((pl.cur = .slice none 0 0 ∧ m = 0) ∨ ∃ a cap, pl.cur = .slice (some a) m cap ∧ m ≤ cap ∧
    (m < cap → a.spot = none ∧ a.block = pl.tb ∧ B ≤ pl.tb ∧ ∃ vs ty fz, w.heap[pl.tb]? = some (.cells vs ty fz) ∧ a.off + cap * sz ≤ vs.size ∧
      ∀ o, a.off + m * sz ≤ o → K ⟨pl.tb, o, none⟩ = none ∧ w.frozen? ⟨pl.tb, o, none⟩ = false))

def objOk (K : Mem) (ι : Nat → Pl) (n : Nat) (w : World) (B : Nat) (pl : Pl) : HO → Prop
  | .box cs => boxOk K ι n w B pl cs
  | .tok sz m => tokOk K w B pl sz m
  | .dead => True
  | .mp es => mpOk K w B pl es

def owns : HO → Pl → Nat → Prop
  | .box _, pl, b => b = pl.block
  | .tok _ m, pl, b => b = pl.tb ∧ ∃ a cap, pl.cur = .slice (some a) m cap ∧ m < cap
  | .dead, _, _ => False
  | .mp _, pl, b => b = pl.block

structure SR (X : Cxt) (K : Mem) (ι : Nat → Pl) (H : List HO) (w : World) : Prop where
  agree : Agree K w
  below : Below X.w0.heap.size X.w0 w
  kle : Mem.le X.K0 K
  kold : ∀ a, a.block < X.w0.heap.size → K a = X.K0 a
  n0 : X.n0 ≤ H.length
  ile : Pls.le X.n0 X.ι0 ι
  obj : ∀ i h, H[i]? = some h → objOk K ι H.length w X.w0.heap.size (ι i) h
  sep : ∀ i j h h' b, H[i]? = some h → H[j]? = some h' → owns h (ι i) b → owns h' (ι j) b → i = j

/-- A step that made new memory alone, all of it known for good. -/
structure Ext (K : Mem) (w : World) (K' : Mem) (w' : World) : Prop where
  le : Mem.le K K'
  old : ∀ a, a.block < w.heap.size → K' a = K a
  agree : Agree K' w'
  below : Below w.heap.size w w'

section
variable {P : Program} {X : Cxt} {K K' : Mem} {ι ι' : Nat → Pl} {n : Nat} {H : List HO} {w w' : World}

theorem Ext.refl (h : Agree K w) : Ext K w K w := ⟨Mem.le_refl K, fun _ _ => rfl, h, Below.refl _ _⟩

theorem heap_lt {w : World} {b : Nat} {o : Obj} (h : w.heap[b]? = some o) : b < w.heap.size := (Array.getElem?_eq_some_iff.1 h).1

theorem SR.size (h : SR X K ι H w) : X.w0.heap.size ≤ w.heap.size := h.below.size

theorem frozen_congr {w w' : World} {b o : Nat} (h : w'.heap[b]? = w.heap[b]?) : w'.frozen? ⟨b, o, none⟩ = w.frozen? ⟨b, o, none⟩ := World.frozen?_of_block (w := w) (a := ⟨b, o, none⟩) h

theorem objOk.ext {n : Nat} {B : Nat} {pl : Pl} {h : HO} (ho : objOk K ι n w B pl h) (hx : Ext K w K' w') : objOk K' ι n w' B pl h := by
  cases h with
  | box cs =>
    obtain ⟨h1, vs, ty, fz, h2, h3, h4, h5, h6⟩ := ho
    have hb := heap_lt h2
    have he := hx.below.block _ hb
    exact ⟨h1, vs, ty, fz, by rw [he]; exact h2, h3, fun o => by rw [frozen_congr he]; exact h4 o, fun j hj => (h5 j hj).mono hx.le (Nat.le_refl _) (Pls.le_refl _ _), fun o => by rw [hx.old _ hb]; exact h6 o⟩
  | tok sz m =>
    obtain ⟨h1, h2⟩ := ho
    refine ⟨h1, h2.imp id ?_⟩
    rintro ⟨a, cap, e, hle, hs⟩
    refine ⟨a, cap, e, hle, fun hlt => ?_⟩
    obtain ⟨g1, g2, g3, vs, ty, fz, g4, g5, g6⟩ := hs hlt
    have hb := heap_lt g4
    have he := hx.below.block _ hb
    exact ⟨g1, g2, g3, vs, ty, fz, by rw [he]; exact g4, g5, fun o ho => by rw [hx.old _ hb, frozen_congr he]; exact g6 o ho⟩
  | dead => trivial
  | mp es =>
    obtain ⟨h1, ents, clock, h2, h3⟩ := ho
    exact ⟨h1, ents, clock, by rw [hx.below.block _ (heap_lt h2)]; exact h2, h3.mono hx.le⟩

theorem SR.ext (h : SR X K ι H w) (hx : Ext K w K' w') : SR X K' ι H w' where
  agree := hx.agree
  below := h.below.trans (hx.below.mono h.size)
  kle := Mem.le_trans h.kle hx.le
  kold := fun a ha => by rw [hx.old a (Nat.lt_of_lt_of_le ha h.size)]; exact h.kold a ha
  n0 := h.n0
  ile := h.ile
  obj := fun i o ho => (h.obj i o ho).ext hx
  sep := h.sep

theorem Ext.drew (h : Agree K w) : Ext K w K w.drew := ⟨Mem.le_refl K, fun _ _ => rfl, fun a v e => by simpa using h a v e, (Below.refl _ _).drew⟩
theorem SR.drew (h : SR X K ι H w) : SR X K ι H w.drew := h.ext (Ext.drew h.agree)

/-! New blocks -/
def place (ι : Nat → Pl) (i : Nat) (p : Pl) : Nat → Pl := fun j => if j = i then p else ι j
theorem place_same (ι : Nat → Pl) (i : Nat) (p : Pl) : place ι i p i = p := by simp [place]
theorem place_other (ι : Nat → Pl) (i j : Nat) (p : Pl) (h : j ≠ i) : place ι i p j = ι j := by simp [place, h]
theorem place_le (ι : Nat → Pl) (n : Nat) (p : Pl) : Pls.le n ι (place ι n p) := fun i hi => by
  rw [place_other _ _ _ _ (by omega)]; exact ⟨rfl, Nat.le_refl _, fun _ => rfl⟩

theorem Below.toAlloc (h : SR X K ι H w) (o : Obj) : Below X.w0.heap.size X.w0 (w.alloc o) := h.below.alloc h.size o

theorem agree_alloc (h : Agree K w) (o : Obj) : Agree K (w.alloc o) := fun a v e => by
  rw [World.cell?_alloc_lt _ _ _ (h.lt e)]; exact h a v e

theorem none_of_ge (h : Agree K w) {a : Addr} (hb : w.heap.size ≤ a.block) : K a = none := by
  cases hk : K a with
  | none => rfl
  | some v => have := h.lt hk; omega

theorem objOk.alloc {B : Nat} {pl : Pl} {h : HO} {N : Nat} (ho : objOk K ι n w B pl h) (hw : Agree K w) (o : Obj) (hn : n ≤ N) (hι : Pls.le n ι ι') : objOk K ι' N (w.alloc o) B pl h := by
  cases h with
  | box cs =>
    obtain ⟨h1, vs, ty, fz, h2, h3, h4, h5, h6⟩ := ho
    have hb := heap_lt h2
    have he : (w.alloc o).heap[pl.block]? = w.heap[pl.block]? := heap_alloc_old w o _ hb
    exact ⟨h1, vs, ty, fz, by rw [he]; exact h2, h3, fun q => by rw [frozen_congr he]; exact h4 q, fun j hj => (h5 j hj).mono (Mem.le_refl K) hn hι, h6⟩
  | tok sz m =>
    obtain ⟨h1, h2⟩ := ho
    refine ⟨h1, h2.imp id ?_⟩
    rintro ⟨a, cap, e, hle, hs⟩
    refine ⟨a, cap, e, hle, fun hlt => ?_⟩
    obtain ⟨g1, g2, g3, vs, ty, fz, g4, g5, g6⟩ := hs hlt
    have hb := heap_lt g4
    have he : (w.alloc o).heap[pl.tb]? = w.heap[pl.tb]? := heap_alloc_old w o _ hb
    exact ⟨g1, g2, g3, vs, ty, fz, by rw [he]; exact g4, g5, fun q hq => by rw [frozen_congr he]; exact g6 q hq⟩
  | dead => trivial
  | mp es =>
    obtain ⟨h1, ents, clock, h2, h3⟩ := ho
    exact ⟨h1, ents, clock, by rw [heap_alloc_old w o _ (heap_lt h2)]; exact h2, h3⟩

theorem owns_lt {h : HO} {pl : Pl} {b B : Nat} (ho : objOk K ι n w B pl h) (hb : owns h pl b) : b < w.heap.size ∧ B ≤ b := by
  cases h with
  | box cs =>
    obtain ⟨h1, vs, ty, fz, h2, _⟩ := ho
    simp only [owns] at hb; subst hb
    exact ⟨heap_lt h2, h1⟩
  | tok sz m =>
    obtain ⟨rfl, a, cap, hc, hlt⟩ := hb
    obtain ⟨h1, h2⟩ := ho
    rcases h2 with ⟨e, _⟩ | ⟨a', cap', e, hle, hs⟩
    · rw [hc] at e; simp at e
    · rw [hc] at e; simp at e
      obtain ⟨g1, g2, g3, vs, ty, fz, g4, g5, g6⟩ := hs (by omega)
      exact ⟨heap_lt g4, g3⟩
  | dead => exact hb.elim
  | mp es =>
    obtain ⟨h1, ents, clock, h2, h3⟩ := ho
    simp only [owns] at hb; subst hb
    exact ⟨heap_lt h2, h1⟩

/-- A new object at the end of the heap. -/
theorem SR.push (h : SR X K ι H w) (hx : SR X K' ι H w') (p : Pl) (o : HO)
    (ho : objOk K' (place ι H.length p) (H.length + 1) w' X.w0.heap.size p o) (hs : ∀ b, owns o p b → ∀ i h', H[i]? = some h' → ¬ owns h' (ι i) b) :
    SR X K' (place ι H.length p) (H ++ [o]) w' where
  agree := hx.agree
  below := hx.below
  kle := hx.kle
  kold := hx.kold
  n0 := by have := hx.n0; simp; omega
  ile := Pls.le_trans hx.n0 hx.ile (place_le _ _ _)
  obj := fun i q hq => by
    by_cases hi : i < H.length
    · rw [List.getElem?_append_left hi] at hq
      rw [place_other _ _ _ _ (by omega)]
      have := hx.obj i q hq
      simp only [List.length_append, List.length_cons, List.length_nil, Nat.zero_add]
      cases q with
      | box cs =>
        obtain ⟨h1, vs, ty, fz, h2, h3, h4, h5, h6⟩ := this
        exact ⟨h1, vs, ty, fz, h2, h3, h4, fun j hj => (h5 j hj).mono (Mem.le_refl _) (by omega) (place_le _ _ _), h6⟩
      | tok sz m => exact this
      | dead => trivial
      | mp es => exact this
    · have hi' : i = H.length := by
        have hl := (List.getElem?_eq_some_iff.1 hq).1
        simp at hl; omega
      subst hi'
      rw [List.getElem?_append_right (Nat.le_refl _)] at hq
      simp at hq; subst hq
      rw [place_same]
      simpa using ho
  sep := fun i j a b k ha hb oa ob => by
    by_cases hi : i < H.length
    · rw [List.getElem?_append_left hi] at ha
      rw [place_other _ _ _ _ (by omega)] at oa
      by_cases hj : j < H.length
      · rw [List.getElem?_append_left hj] at hb
        rw [place_other _ _ _ _ (by omega)] at ob
        exact hx.sep i j a b k ha hb oa ob
      · have hj' : j = H.length := by
          have hl := (List.getElem?_eq_some_iff.1 hb).1
          simp at hl; omega
        subst hj'
        rw [List.getElem?_append_right (Nat.le_refl _)] at hb
        simp at hb; subst hb
        rw [place_same] at ob
        exact absurd oa (hs k ob i a ha)
    · have hi' : i = H.length := by
        have hl := (List.getElem?_eq_some_iff.1 ha).1
        simp at hl; omega
      subst hi'
      rw [List.getElem?_append_right (Nat.le_refl _)] at ha
      simp at ha; subst ha
      rw [place_same] at oa
      by_cases hj : j < H.length
      · rw [List.getElem?_append_left hj] at hb
        rw [place_other _ _ _ _ (by omega)] at ob
        exact absurd ob (hs k oa j b hb)
      · have hl := (List.getElem?_eq_some_iff.1 hb).1
        simp at hl; omega

/-- An object in the heap turns into another one at the same or another place. -/
theorem SR.set {id : Nat} {o0 : HO} (hx : SR X K ι H w) (hid : H[id]? = some o0) (p : Pl) (o : HO) (hK : Mem.le K K') (hag : Agree K' w') (hbe : Below X.w0.heap.size X.w0 w')
    (hkold : ∀ a, a.block < X.w0.heap.size → K' a = X.K0 a)
    (hp : p.block = (ι id).block ∧ (ι id).len ≤ p.len ∧ (p.len = (ι id).len → p.cur = (ι id).cur))
    (hoth : ∀ i q, i ≠ id → H[i]? = some q → objOk K' ι H.length w' X.w0.heap.size (ι i) q)
    (ho : objOk K' (place ι id p) H.length w' X.w0.heap.size p o)
    (hs : ∀ b, owns o p b → ∀ i h', i ≠ id → H[i]? = some h' → ¬ owns h' (ι i) b) :
    SR X K' (place ι id p) (H.set id o) w' ∧ Pls.le H.length ι (place ι id p) := by
  have hle : Pls.le H.length ι (place ι id p) := fun i hi => by
    by_cases hc : i = id
    · subst hc; rw [place_same]; exact hp
    · rw [place_other _ _ _ _ hc]; exact ⟨rfl, Nat.le_refl _, fun _ => rfl⟩
  have hlt : id < H.length := (List.getElem?_eq_some_iff.1 hid).1
  refine ⟨⟨hag, hbe, Mem.le_trans hx.kle hK, hkold, by simpa using hx.n0, Pls.le_trans hx.n0 hx.ile hle, ?_, ?_⟩, hle⟩
  · intro i q hq
    rw [List.length_set]
    by_cases hc : i = id
    · subst hc
      rw [List.getElem?_set_self hlt] at hq
      simp at hq; subst hq
      rw [place_same]; exact ho
    · rw [List.getElem?_set_ne (by omega)] at hq
      rw [place_other _ _ _ _ hc]
      have := hoth i q hc hq
      cases q with
      | box cs =>
        obtain ⟨h1, vs, ty, fz, h2, h3, h4, h5, h6⟩ := this
        exact ⟨h1, vs, ty, fz, h2, h3, h4, fun j hj => (h5 j hj).mono (Mem.le_refl _) (Nat.le_refl _) hle, h6⟩
      | tok sz m => exact this
      | dead => trivial
      | mp es => exact this
  · intro i j a b k ha hb oa ob
    by_cases hc : i = id
    · subst hc
      rw [List.getElem?_set_self hlt] at ha
      simp at ha; subst ha
      rw [place_same] at oa
      by_cases hd : j = i
      · exact hd.symm
      · rw [List.getElem?_set_ne (by omega)] at hb
        rw [place_other _ _ _ _ hd] at ob
        exact absurd ob (hs k oa j b hd hb)
    · rw [List.getElem?_set_ne (by omega)] at ha
      rw [place_other _ _ _ _ hc] at oa
      by_cases hd : j = id
      · subst hd
        rw [List.getElem?_set_self hlt] at hb
        simp at hb; subst hb
        rw [place_same] at ob
        exact absurd oa (hs k ob i a hc ha)
      · rw [List.getElem?_set_ne (by omega)] at hb
        rw [place_other _ _ _ _ hd] at ob
        exact hx.sep i j a b k ha hb oa ob

/-- What a step leaves. -/
def Left (X : Cxt) (K : Mem) (ι : Nat → Pl) (n : Nat) (H' : List HO) (r : AV) (v : Value) (w' : World) : Prop :=
  ∃ K' ι', SR X K' ι' H' w' ∧ RelA K' ι' H'.length r v ∧ Mem.le K K' ∧ Pls.le n ι ι' ∧ n ≤ H'.length

/-- A new box. -/
theorem SR.newBox (h : SR X K ι H w) (vs : Array Value) (ty : TypeId) (cs : List AV) (hl : vs.size = cs.length) (hr : ∀ j, j < cs.length → RelA K ι H.length (cs.getD j .junk) (vs.getD j undef)) :
    SR X K (place ι H.length ⟨w.heap.size, undef, 0, 0⟩) (H ++ [.box cs]) (w.alloc (.cells vs ty)) := by
  have hal : SR X K ι H (w.alloc (.cells vs ty)) := h.ext ⟨Mem.le_refl K, fun _ _ => rfl, agree_alloc h.agree _, (Below.refl _ _).alloc (Nat.le_refl _) _⟩
  refine h.push hal _ _ ⟨h.size, vs, ty, (0, 0), heap_alloc_new w _, hl, fun o => ?_, fun j hj => (hr j hj).mono (Mem.le_refl K) (by omega) (place_le _ _ _), fun o => none_of_ge h.agree (Nat.le_refl _)⟩ ?_
  · exact World.frozen?_alloc_new w vs ty o
  · intro b hb i h' hi ho
    simp only [owns] at hb; subst hb
    have := (owns_lt (h.obj i h' hi) ho).1
    omega

end
end Go.Proofs.YtjmldlknegbimaaDoor.Sx
