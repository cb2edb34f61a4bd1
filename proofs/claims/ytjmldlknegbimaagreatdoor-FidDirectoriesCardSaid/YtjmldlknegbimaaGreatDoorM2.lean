/- The library, joined: A7 A8 A9 A10. -/
import Derived.Test.YtjmldlknegbimaaGreatDoorM1
import Derived.Laws.AppendOwn
import Derived.MapKept
import Derived.Lib.FrozenHead
import Derived.Lib.UnsafeStr
import Derived.Laws.IdiomStrings
/- Memory of the call's own: boxes and tokens; how the abstract heap lies in the world; that each change of the one is a change of the other. Own library, part 7. -/
set_option linter.unusedVariables false
set_option linter.unusedSimpArgs false
namespace Go.Proofs.YtjmldlknegbimaaGreatDoor.Sx
open Go Go.RowKit

structure Cxt where
  w0 : World
  K0 : Mem
  ι0 : Nat → Pl
  n0 : Nat

/-- Where a range over a function stands. -/
inductive LS where
  | ready
  | busy
  | done (jump : Code)

def LS.st : LS → LoopState
  | .ready => .ready
  | .busy => .busy
  | .done _ => .done
def LS.pend : LS → Option Code
  | .done c => some c
  | _ => none

inductive HO where
  | box (cs : List AV)
  | tok (sz m : Nat)
  | dead
  | mp (es : List (List UInt8 × DV))
  | loop (st : LS) (vals : List (Nat × AV)) (ps : List Tmp) (assign body : Code)
  | dfrAt (D : Nat)
  | bld (T e : TypeId) (l : List UInt8)

/-- A map keyed by strings: its entries, in the order in which they came. -/
def MpRel (K : Mem) : List (List UInt8 × DV) → List MapEntry → Prop
  | [], [] => True
  | (k, d) :: r, e :: es => e.key = .string ⟨k.toArray⟩ ∧ Rel K d e.val ∧ MpRel K r es
  | _, _ => False

theorem MpRel.mono {K K' : Mem} (h : Mem.le K K') : ∀ {es : List (List UInt8 × DV)} {l : List MapEntry}, MpRel K es l → MpRel K' es l
  | [], [], _ => trivial
  | (k, d) :: r, e :: es, ⟨h1, h2, h3⟩ => ⟨h1, h2.mono h, h3.mono h⟩

def mpOk (K : Mem) (w : World) (B : Nat) (pl : Pl) (es : List (List UInt8 × DV)) : Prop := B ≤ pl.block ∧ ∃ ents clock, w.heap[pl.block]? = some (.map ents clock) ∧ MpRel K es ents.toList

/-- Every slot that is written is one of the frame's. -/
def dstOk (nt : Nat) : Code → Bool
  | .seq a b => dstOk nt a && dstOk nt b
  | .cond _ a b => dstOk nt a && dstOk nt b
  | .block _ a => dstOk nt a
  | .loop a => dstOk nt a
  | .region _ ops _ => ops.toList.all fun o => match o.dst with | some d => decide (d < nt) | none => true
  | .rangeFunc _ ps a b => ps.toList.all (fun d => decide (d < nt)) && dstOk nt a && dstOk nt b
  | _ => true

/-- The slot of the marks among the deferred calls: no frame has so many. -/
def dSlot : Nat := 1000000
def lpD (nt : Nat) (ps : List Tmp) (assign body : Code) : Prop := dstOk nt assign = true ∧ dstOk nt body = true ∧ (∀ d ∈ ps, d < nt) ∧ nt ≤ dSlot

/-- The record of a range over a function: what the rounds start from. -/
def lpOk (K : Mem) (ι : Nat → Pl) (n : Nat) (w : World) (B : Nat) (pl : Pl) (st : LS) (vals : List (Nat × AV)) (ps : List Tmp) (assign body : Code) : Prop :=
  B ≤ pl.block ∧ ∃ (fn : FuncId) (tmps : Array Value) (D : Nat), w.heap[pl.block]? = some (.loop { state := st.st, pending := st.pend, fn, tmps, params := ⟨ps⟩, assign, body, defers := D }) ∧ lpD tmps.size ps assign body ∧
    ∀ p ∈ vals, RelA K ι n p.2 (tmps.getD p.1 undef)

def dfOk (w : World) (B : Nat) (pl : Pl) (D : Nat) : Prop := B ≤ D ∧ pl.block = D ∧ w.heap[D]? = some (.deferred (some []))

/-- A strings.Builder: its block, and the row that it owns. -/
def bdOk (K : Mem) (w : World) (B : Nat) (pl : Pl) (T e : TypeId) (l : List UInt8) : Prop :=
  B ≤ pl.block ∧ (∀ o, K ⟨pl.block, o, none⟩ = none) ∧ ∃ p v, w.heap[pl.block]? = some (.cells #[p, v] T (0, 0)) ∧ (p = .pointer none ∨ p = .pointer (some ⟨pl.block, 0, none⟩)) ∧ w.ownsRowF B e 1 v l.length (Lib.byteCells l) ∧
    ((l = [] ∧ pl.len = 0 ∧ v = .slice none 0 0) ∨ (l ≠ [] ∧ pl.len = 1 ∧ v.ownBlock = some pl.tb ∧ pl.tb ≠ pl.block ∧ ∀ o, K ⟨pl.tb, o, none⟩ = none))

theorem bdOk.lt {K : Mem} {w : World} {B : Nat} {pl : Pl} {T e : TypeId} {l : List UInt8} (h : bdOk K w B pl T e l) : pl.block < w.heap.size ∧ (pl.len = 1 → pl.tb < w.heap.size ∧ B ≤ pl.tb) := by
  obtain ⟨h1, h2, p, v, h3, h4, h5, h6⟩ := h
  refine ⟨(Array.getElem?_eq_some_iff.1 h3).1, fun hl => ?_⟩
  rcases h6 with ⟨_, h6, _⟩ | ⟨_, _, h7, _⟩
  · omega
  · rcases h5.2 with ⟨rfl, _⟩ | ⟨g, cap, cur, fz, rfl, hB, hg, _⟩
    · simp [Value.ownBlock] at h7
    · simp only [Value.ownBlock, Option.some.injEq] at h7
      subst h7
      exact ⟨(Array.getElem?_eq_some_iff.1 hg).1, hB⟩

theorem bdOk.frame {K K' : Mem} {w w' : World} {B : Nat} {pl : Pl} {T e : TypeId} {l : List UInt8} (h : bdOk K w B pl T e l) (hb : w'.heap[pl.block]? = w.heap[pl.block]?) (hg : pl.len = 1 → w'.heap[pl.tb]? = w.heap[pl.tb]?)
    (hk : ∀ o, K' ⟨pl.block, o, none⟩ = K ⟨pl.block, o, none⟩) (hk' : pl.len = 1 → ∀ o, K' ⟨pl.tb, o, none⟩ = K ⟨pl.tb, o, none⟩) : bdOk K' w' B pl T e l := by
  obtain ⟨h1, h2, p, v, h3, h4, h5, h6⟩ := h
  refine ⟨h1, fun o => by rw [hk]; exact h2 o, p, v, by rw [hb]; exact h3, h4, ?_, ?_⟩
  · refine ⟨h5.1, ?_⟩
    rcases h5.2 with h | ⟨g, cap, cur, fz, rfl, hB, hgg, hrest⟩
    · exact .inl h
    · have : pl.len = 1 ∧ pl.tb = g := by
        rcases h6 with ⟨_, _, h6⟩ | ⟨_, h6, h7, _⟩
        · simp at h6
        · simp only [Value.ownBlock, Option.some.injEq] at h7
          exact ⟨h6, h7.symm⟩
      exact .inr ⟨g, cap, cur, fz, rfl, hB, by have := hg this.1; rw [‹pl.len = 1 ∧ pl.tb = g›.2] at this; rw [this]; exact hgg, hrest⟩
  · rcases h6 with h6 | ⟨hl, h6, h7, h8, h9⟩
    · exact .inl h6
    · exact .inr ⟨hl, h6, h7, h8, fun o => by rw [hk' h6]; exact h9 o⟩

def boxOk (K : Mem) (ι : Nat → Pl) (n : Nat) (w : World) (B : Nat) (pl : Pl) (cs : List AV) : Prop :=
  B ≤ pl.block ∧ ∃ vs ty fz, w.heap[pl.block]? = some (.cells vs ty fz) ∧ vs.size = cs.length ∧ (∀ o, w.frozen? ⟨pl.block, o, none⟩ = false) ∧
    (∀ j, j < cs.length → RelA K ι n (cs.getD j .junk) (vs.getD j undef)) ∧ (∀ o, K ⟨pl.block, o, none⟩ = none)

def tokOk (K : Mem) (w : World) (B : Nat) (pl : Pl) (sz m : Nat) : Prop :=
  pl.len = m ∧ ((pl.cur = .slice none 0 0 ∧ m = 0) ∨ ∃ a cap, pl.cur = .slice (some a) m cap ∧ m ≤ cap ∧
    (m < cap → a.spot = none ∧ a.block = pl.tb ∧ B ≤ pl.tb ∧ ∃ vs ty fz, w.heap[pl.tb]? = some (.cells vs ty fz) ∧ a.off + cap * sz ≤ vs.size ∧
      ∀ o, a.off + m * sz ≤ o → K ⟨pl.tb, o, none⟩ = none ∧ w.frozen? ⟨pl.tb, o, none⟩ = false))

def objOk (K : Mem) (ι : Nat → Pl) (n : Nat) (w : World) (B : Nat) (pl : Pl) : HO → Prop
  | .box cs => boxOk K ι n w B pl cs
  | .tok sz m => tokOk K w B pl sz m
  | .dead => True
  | .mp es => mpOk K w B pl es
  | .loop st vals ps assign body => lpOk K ι n w B pl st vals ps assign body
  | .dfrAt D => dfOk w B pl D
  | .bld T e l => bdOk K w B pl T e l

def owns : HO → Pl → Nat → Prop
  | .box _, pl, b => b = pl.block
  | .tok _ m, pl, b => b = pl.tb ∧ ∃ a cap, pl.cur = .slice (some a) m cap ∧ m < cap
  | .dead, _, _ => False
  | .mp _, pl, b => b = pl.block
  | .loop .., pl, b => b = pl.block
  | .dfrAt _, pl, b => b = pl.block
  | .bld .., pl, b => b = pl.block ∨ (pl.len = 1 ∧ b = pl.tb)

structure SR (X : Cxt) (K : Mem) (ι : Nat → Pl) (H : List HO) (w : World) : Prop where
  agree : Agree K w
  below : Below X.w0.heap.size X.w0 w
  kle : Mem.le X.K0 K
  kold : ∀ a, a.block < X.w0.heap.size → K a = X.K0 a
  n0 : X.n0 ≤ H.length
  ile : Pls.le X.n0 X.ι0 ι
  obj : ∀ i h, H[i]? = some h → objOk K ι H.length w X.w0.heap.size (ι i) h
  sep : ∀ i j h h' b, H[i]? = some h → H[j]? = some h' → owns h (ι i) b → owns h' (ι j) b → i = j

/-- A step that made new memory alone, all of it known for good. -/
structure Ext (K : Mem) (w : World) (K' : Mem) (w' : World) : Prop where
  le : Mem.le K K'
  old : ∀ a, a.block < w.heap.size → K' a = K a
  agree : Agree K' w'
  below : Below w.heap.size w w'

section
variable {P : Program} {X : Cxt} {K K' : Mem} {ι ι' : Nat → Pl} {n : Nat} {H : List HO} {w w' : World}

theorem Ext.refl (h : Agree K w) : Ext K w K w := ⟨Mem.le_refl K, fun _ _ => rfl, h, Below.refl _ _⟩

theorem heap_lt {w : World} {b : Nat} {o : Obj} (h : w.heap[b]? = some o) : b < w.heap.size := (Array.getElem?_eq_some_iff.1 h).1

theorem SR.size (h : SR X K ι H w) : X.w0.heap.size ≤ w.heap.size := h.below.size

theorem frozen_congr {w w' : World} {b o : Nat} (h : w'.heap[b]? = w.heap[b]?) : w'.frozen? ⟨b, o, none⟩ = w.frozen? ⟨b, o, none⟩ := World.frozen?_of_block (w := w) (a := ⟨b, o, none⟩) h

theorem objOk.ext {n : Nat} {B : Nat} {pl : Pl} {h : HO} (ho : objOk K ι n w B pl h) (hx : Ext K w K' w') : objOk K' ι n w' B pl h := by
  cases h with
  | box cs =>
    obtain ⟨h1, vs, ty, fz, h2, h3, h4, h5, h6⟩ := ho
    have hb := heap_lt h2
    have he := hx.below.block _ hb
    exact ⟨h1, vs, ty, fz, by rw [he]; exact h2, h3, fun o => by rw [frozen_congr he]; exact h4 o, fun j hj => (h5 j hj).mono hx.le (Nat.le_refl _) (Pls.le_refl _ _), fun o => by rw [hx.old _ hb]; exact h6 o⟩
  | tok sz m =>
    obtain ⟨h1, h2⟩ := ho
    refine ⟨h1, h2.imp id ?_⟩
    rintro ⟨a, cap, e, hle, hs⟩
    refine ⟨a, cap, e, hle, fun hlt => ?_⟩
    obtain ⟨g1, g2, g3, vs, ty, fz, g4, g5, g6⟩ := hs hlt
    have hb := heap_lt g4
    have he := hx.below.block _ hb
    exact ⟨g1, g2, g3, vs, ty, fz, by rw [he]; exact g4, g5, fun o ho => by rw [hx.old _ hb, frozen_congr he]; exact g6 o ho⟩
  | dead => trivial
  | mp es =>
    obtain ⟨h1, ents, clock, h2, h3⟩ := ho
    exact ⟨h1, ents, clock, by rw [hx.below.block _ (heap_lt h2)]; exact h2, h3.mono hx.le⟩
  | loop st vals ps assign body =>
    obtain ⟨h1, fn, tmps, D, h2, h3, h4⟩ := ho
    exact ⟨h1, fn, tmps, D, by rw [hx.below.block _ (heap_lt h2)]; exact h2, h3, fun p hp => (h4 p hp).mono hx.le (Nat.le_refl _) (Pls.le_refl _ _)⟩
  | dfrAt D =>
    obtain ⟨h1, h2, h3⟩ := ho
    exact ⟨h1, h2, by rw [hx.below.block _ (heap_lt h3)]; exact h3⟩
  | bld T e l =>
    obtain ⟨g1, g2⟩ := bdOk.lt ho
    exact bdOk.frame ho (hx.below.block _ g1) (fun h => hx.below.block _ (g2 h).1) (fun o => hx.old _ g1) (fun h o => hx.old _ (g2 h).1)

theorem SR.ext (h : SR X K ι H w) (hx : Ext K w K' w') : SR X K' ι H w' where
  agree := hx.agree
  below := h.below.trans (hx.below.mono h.size)
  kle := Mem.le_trans h.kle hx.le
  kold := fun a ha => by rw [hx.old a (Nat.lt_of_lt_of_le ha h.size)]; exact h.kold a ha
  n0 := h.n0
  ile := h.ile
  obj := fun i o ho => (h.obj i o ho).ext hx
  sep := h.sep

theorem Ext.drew (h : Agree K w) : Ext K w K w.drew := ⟨Mem.le_refl K, fun _ _ => rfl, fun a v e => by simpa using h a v e, (Below.refl _ _).drew⟩
theorem SR.drew (h : SR X K ι H w) : SR X K ι H w.drew := h.ext (Ext.drew h.agree)

/-! New blocks -/
def place (ι : Nat → Pl) (i : Nat) (p : Pl) : Nat → Pl := fun j => if j = i then p else ι j
theorem place_same (ι : Nat → Pl) (i : Nat) (p : Pl) : place ι i p i = p := by simp [place]
theorem place_other (ι : Nat → Pl) (i j : Nat) (p : Pl) (h : j ≠ i) : place ι i p j = ι j := by simp [place, h]
theorem place_le (ι : Nat → Pl) (n : Nat) (p : Pl) : Pls.le n ι (place ι n p) := fun i hi => by
  rw [place_other _ _ _ _ (by omega)]; exact ⟨rfl, Nat.le_refl _, fun _ => rfl⟩

theorem Below.toAlloc (h : SR X K ι H w) (o : Obj) : Below X.w0.heap.size X.w0 (w.alloc o) := h.below.alloc h.size o

theorem agree_alloc (h : Agree K w) (o : Obj) : Agree K (w.alloc o) := fun a v e => by
  rw [World.cell?_alloc_lt _ _ _ (h.lt e)]; exact h a v e

theorem none_of_ge (h : Agree K w) {a : Addr} (hb : w.heap.size ≤ a.block) : K a = none := by
  cases hk : K a with
  | none => rfl
  | some v => have := h.lt hk; omega

theorem objOk.alloc {B : Nat} {pl : Pl} {h : HO} {N : Nat} (ho : objOk K ι n w B pl h) (hw : Agree K w) (o : Obj) (hn : n ≤ N) (hι : Pls.le n ι ι') : objOk K ι' N (w.alloc o) B pl h := by
  cases h with
  | box cs =>
    obtain ⟨h1, vs, ty, fz, h2, h3, h4, h5, h6⟩ := ho
    have hb := heap_lt h2
    have he : (w.alloc o).heap[pl.block]? = w.heap[pl.block]? := heap_alloc_old w o _ hb
    exact ⟨h1, vs, ty, fz, by rw [he]; exact h2, h3, fun q => by rw [frozen_congr he]; exact h4 q, fun j hj => (h5 j hj).mono (Mem.le_refl K) hn hι, h6⟩
  | tok sz m =>
    obtain ⟨h1, h2⟩ := ho
    refine ⟨h1, h2.imp id ?_⟩
    rintro ⟨a, cap, e, hle, hs⟩
    refine ⟨a, cap, e, hle, fun hlt => ?_⟩
    obtain ⟨g1, g2, g3, vs, ty, fz, g4, g5, g6⟩ := hs hlt
    have hb := heap_lt g4
    have he : (w.alloc o).heap[pl.tb]? = w.heap[pl.tb]? := heap_alloc_old w o _ hb
    exact ⟨g1, g2, g3, vs, ty, fz, by rw [he]; exact g4, g5, fun q hq => by rw [frozen_congr he]; exact g6 q hq⟩
  | dead => trivial
  | mp es =>
    obtain ⟨h1, ents, clock, h2, h3⟩ := ho
    exact ⟨h1, ents, clock, by rw [heap_alloc_old w o _ (heap_lt h2)]; exact h2, h3⟩
  | loop st vals ps assign body =>
    obtain ⟨h1, fn, tmps, D, h2, h3, h4⟩ := ho
    exact ⟨h1, fn, tmps, D, by rw [heap_alloc_old w o _ (heap_lt h2)]; exact h2, h3, fun p hp => (h4 p hp).mono (Mem.le_refl K) hn hι⟩
  | dfrAt D =>
    obtain ⟨h1, h2, h3⟩ := ho
    exact ⟨h1, h2, by rw [heap_alloc_old w o _ (heap_lt h3)]; exact h3⟩
  | bld T e l =>
    obtain ⟨g1, g2⟩ := bdOk.lt ho
    exact bdOk.frame ho (heap_alloc_old w o _ g1) (fun h => heap_alloc_old w o _ (g2 h).1) (fun o => rfl) (fun h o => rfl)

theorem owns_lt {h : HO} {pl : Pl} {b B : Nat} (ho : objOk K ι n w B pl h) (hb : owns h pl b) : b < w.heap.size ∧ B ≤ b := by
  cases h with
  | box cs =>
    obtain ⟨h1, vs, ty, fz, h2, _⟩ := ho
    simp only [owns] at hb; subst hb
    exact ⟨heap_lt h2, h1⟩
  | tok sz m =>
    obtain ⟨rfl, a, cap, hc, hlt⟩ := hb
    obtain ⟨h1, h2⟩ := ho
    rcases h2 with ⟨e, _⟩ | ⟨a', cap', e, hle, hs⟩
    · rw [hc] at e; simp at e
    · rw [hc] at e; simp at e
      obtain ⟨g1, g2, g3, vs, ty, fz, g4, g5, g6⟩ := hs (by omega)
      exact ⟨heap_lt g4, g3⟩
  | dead => exact hb.elim
  | mp es =>
    obtain ⟨h1, ents, clock, h2, h3⟩ := ho
    simp only [owns] at hb; subst hb
    exact ⟨heap_lt h2, h1⟩
  | loop st vals ps assign body =>
    obtain ⟨h1, fn, tmps, D, h2, h3, h4⟩ := ho
    simp only [owns] at hb; subst hb
    exact ⟨heap_lt h2, h1⟩
  | dfrAt D =>
    obtain ⟨h1, h2, h3⟩ := ho
    simp only [owns] at hb; subst hb
    exact ⟨by rw [h2]; exact heap_lt h3, by rw [h2]; exact h1⟩
  | bld T e l =>
    obtain ⟨g1, g2⟩ := bdOk.lt ho
    rcases hb with rfl | ⟨h, rfl⟩
    · exact ⟨g1, ho.1⟩
    · exact g2 h

/-- A new object at the end of the heap. -/
theorem SR.push (h : SR X K ι H w) (hx : SR X K' ι H w') (p : Pl) (o : HO)
    (ho : objOk K' (place ι H.length p) (H.length + 1) w' X.w0.heap.size p o) (hs : ∀ b, owns o p b → ∀ i h', H[i]? = some h' → ¬ owns h' (ι i) b) :
    SR X K' (place ι H.length p) (H ++ [o]) w' where
  agree := hx.agree
  below := hx.below
  kle := hx.kle
  kold := hx.kold
  n0 := by have := hx.n0; simp; omega
  ile := Pls.le_trans hx.n0 hx.ile (place_le _ _ _)
  obj := fun i q hq => by
    by_cases hi : i < H.length
    · rw [List.getElem?_append_left hi] at hq
      rw [place_other _ _ _ _ (by omega)]
      have := hx.obj i q hq
      simp only [List.length_append, List.length_cons, List.length_nil, Nat.zero_add]
      cases q with
      | box cs =>
        obtain ⟨h1, vs, ty, fz, h2, h3, h4, h5, h6⟩ := this
        exact ⟨h1, vs, ty, fz, h2, h3, h4, fun j hj => (h5 j hj).mono (Mem.le_refl _) (by omega) (place_le _ _ _), h6⟩
      | tok sz m => exact this
      | dead => trivial
      | mp es => exact this
      | loop st vals ps assign body =>
        obtain ⟨h1, fn, tmps, D, h2, h3, h4⟩ := this
        exact ⟨h1, fn, tmps, D, h2, h3, fun p hp => (h4 p hp).mono (Mem.le_refl _) (by omega) (place_le _ _ _)⟩
      | dfrAt D => exact this
      | bld T e l => exact this
    · have hi' : i = H.length := by
        have hl := (List.getElem?_eq_some_iff.1 hq).1
        simp at hl; omega
      subst hi'
      rw [List.getElem?_append_right (Nat.le_refl _)] at hq
      simp at hq; subst hq
      rw [place_same]
      simpa using ho
  sep := fun i j a b k ha hb oa ob => by
    by_cases hi : i < H.length
    · rw [List.getElem?_append_left hi] at ha
      rw [place_other _ _ _ _ (by omega)] at oa
      by_cases hj : j < H.length
      · rw [List.getElem?_append_left hj] at hb
        rw [place_other _ _ _ _ (by omega)] at ob
        exact hx.sep i j a b k ha hb oa ob
      · have hj' : j = H.length := by
          have hl := (List.getElem?_eq_some_iff.1 hb).1
          simp at hl; omega
        subst hj'
        rw [List.getElem?_append_right (Nat.le_refl _)] at hb
        simp at hb; subst hb
        rw [place_same] at ob
        exact absurd oa (hs k ob i a ha)
    · have hi' : i = H.length := by
        have hl := (List.getElem?_eq_some_iff.1 ha).1
        simp at hl; omega
      subst hi'
      rw [List.getElem?_append_right (Nat.le_refl _)] at ha
      simp at ha; subst ha
      rw [place_same] at oa
      by_cases hj : j < H.length
      · rw [List.getElem?_append_left hj] at hb
        rw [place_other _ _ _ _ (by omega)] at ob
        exact absurd ob (hs k oa j b hb)
      · have hl := (List.getElem?_eq_some_iff.1 hb).1
        simp at hl; omega

/-- An object in the heap turns into another one at the same or another place. -/
theorem SR.set {id : Nat} {o0 : HO} (hx : SR X K ι H w) (hid : H[id]? = some o0) (p : Pl) (o : HO) (hK : Mem.le K K') (hag : Agree K' w') (hbe : Below X.w0.heap.size X.w0 w')
    (hkold : ∀ a, a.block < X.w0.heap.size → K' a = X.K0 a)
    (hp : p.block = (ι id).block ∧ (ι id).len ≤ p.len ∧ (p.len = (ι id).len → p.cur = (ι id).cur))
    (hoth : ∀ i q, i ≠ id → H[i]? = some q → objOk K' ι H.length w' X.w0.heap.size (ι i) q)
    (ho : objOk K' (place ι id p) H.length w' X.w0.heap.size p o)
    (hs : ∀ b, owns o p b → ∀ i h', i ≠ id → H[i]? = some h' → ¬ owns h' (ι i) b) :
    SR X K' (place ι id p) (H.set id o) w' ∧ Pls.le H.length ι (place ι id p) := by
  have hle : Pls.le H.length ι (place ι id p) := fun i hi => by
    by_cases hc : i = id
    · subst hc; rw [place_same]; exact hp
    · rw [place_other _ _ _ _ hc]; exact ⟨rfl, Nat.le_refl _, fun _ => rfl⟩
  have hlt : id < H.length := (List.getElem?_eq_some_iff.1 hid).1
  refine ⟨⟨hag, hbe, Mem.le_trans hx.kle hK, hkold, by simpa using hx.n0, Pls.le_trans hx.n0 hx.ile hle, ?_, ?_⟩, hle⟩
  · intro i q hq
    rw [List.length_set]
    by_cases hc : i = id
    · subst hc
      rw [List.getElem?_set_self hlt] at hq
      simp at hq; subst hq
      rw [place_same]; exact ho
    · rw [List.getElem?_set_ne (by omega)] at hq
      rw [place_other _ _ _ _ hc]
      have := hoth i q hc hq
      cases q with
      | box cs =>
        obtain ⟨h1, vs, ty, fz, h2, h3, h4, h5, h6⟩ := this
        exact ⟨h1, vs, ty, fz, h2, h3, h4, fun j hj => (h5 j hj).mono (Mem.le_refl _) (Nat.le_refl _) hle, h6⟩
      | tok sz m => exact this
      | dead => trivial
      | mp es => exact this
      | loop st vals ps assign body =>
        obtain ⟨h1, fn, tmps, D, h2, h3, h4⟩ := this
        exact ⟨h1, fn, tmps, D, h2, h3, fun p hp => (h4 p hp).mono (Mem.le_refl _) (Nat.le_refl _) hle⟩
      | dfrAt D => exact this
      | bld T e l => exact this
  · intro i j a b k ha hb oa ob
    by_cases hc : i = id
    · subst hc
      rw [List.getElem?_set_self hlt] at ha
      simp at ha; subst ha
      rw [place_same] at oa
      by_cases hd : j = i
      · exact hd.symm
      · rw [List.getElem?_set_ne (by omega)] at hb
        rw [place_other _ _ _ _ hd] at ob
        exact absurd ob (hs k oa j b hd hb)
    · rw [List.getElem?_set_ne (by omega)] at ha
      rw [place_other _ _ _ _ hc] at oa
      by_cases hd : j = id
      · subst hd
        rw [List.getElem?_set_self hlt] at hb
        simp at hb; subst hb
        rw [place_same] at ob
        exact absurd oa (hs k ob i a hc ha)
      · rw [List.getElem?_set_ne (by omega)] at hb
        rw [place_other _ _ _ _ hd] at ob
        exact hx.sep i j a b k ha hb oa ob

/-- What an object owns stands as it stood. -/
theorem objOk.frame {B : Nat} {pl : Pl} {q : HO} (ho : objOk K ι n w B pl q) (h : ∀ b, owns q pl b → w'.heap[b]? = w.heap[b]?) : objOk K ι n w' B pl q := by
  cases q with
  | box ds =>
    obtain ⟨h1, vs, ty, fz, h2, h3, h4, h5, h6⟩ := ho
    have he := h pl.block rfl
    exact ⟨h1, vs, ty, fz, by rw [he]; exact h2, h3, fun o => by rw [frozen_congr he]; exact h4 o, h5, h6⟩
  | tok sz m =>
    obtain ⟨h1, h2⟩ := ho
    refine ⟨h1, h2.imp id ?_⟩
    rintro ⟨a, cap, e, hle, hs⟩
    refine ⟨a, cap, e, hle, fun hlt => ?_⟩
    have he := h pl.tb ⟨rfl, a, cap, e, hlt⟩
    obtain ⟨g1, g2, g3, vs, ty, fz, g4, g5, g6⟩ := hs hlt
    exact ⟨g1, g2, g3, vs, ty, fz, by rw [he]; exact g4, g5, fun o ho => by rw [frozen_congr he]; exact g6 o ho⟩
  | dead => trivial
  | mp es =>
    obtain ⟨h1, ents, clock, h2, h3⟩ := ho
    exact ⟨h1, ents, clock, by rw [h pl.block rfl]; exact h2, h3⟩
  | loop st vals ps assign body =>
    obtain ⟨h1, fn, tmps, D, h2, h3, h4⟩ := ho
    exact ⟨h1, fn, tmps, D, by rw [h pl.block rfl]; exact h2, h3, h4⟩
  | dfrAt D =>
    obtain ⟨h1, h2, h3⟩ := ho
    exact ⟨h1, h2, by have := h pl.block rfl; rw [h2] at this; rw [this]; exact h3⟩
  | bld T e l => exact bdOk.frame ho (h _ (.inl rfl)) (fun hl => h _ (.inr ⟨hl, rfl⟩)) (fun _ => rfl) (fun _ _ => rfl)

/-- What a step leaves. -/
def Left (X : Cxt) (K : Mem) (ι : Nat → Pl) (n : Nat) (H' : List HO) (r : AV) (v : Value) (w' : World) : Prop :=
  ∃ K' ι', SR X K' ι' H' w' ∧ RelA K' ι' H'.length r v ∧ Mem.le K K' ∧ Pls.le n ι ι' ∧ n ≤ H'.length

/-- A new box. -/
theorem SR.newBox (h : SR X K ι H w) (vs : Array Value) (ty : TypeId) (cs : List AV) (hl : vs.size = cs.length) (hr : ∀ j, j < cs.length → RelA K ι H.length (cs.getD j .junk) (vs.getD j undef)) :
    SR X K (place ι H.length ⟨w.heap.size, undef, 0, 0⟩) (H ++ [.box cs]) (w.alloc (.cells vs ty)) := by
  have hal : SR X K ι H (w.alloc (.cells vs ty)) := h.ext ⟨Mem.le_refl K, fun _ _ => rfl, agree_alloc h.agree _, (Below.refl _ _).alloc (Nat.le_refl _) _⟩
  refine h.push hal _ _ ⟨h.size, vs, ty, (0, 0), heap_alloc_new w _, hl, fun o => ?_, fun j hj => (hr j hj).mono (Mem.le_refl K) (by omega) (place_le _ _ _), fun o => none_of_ge h.agree (Nat.le_refl _)⟩ ?_
  · exact World.frozen?_alloc_new w vs ty o
  · intro b hb i h' hi ho
    simp only [owns] at hb; subst hb
    have := (owns_lt (h.obj i h' hi) ho).1
    omega

end
end Go.Proofs.YtjmldlknegbimaaGreatDoor.Sx

/- Steps that use the call's own memory: alloc, box, load, store, make, slice literals, append. Own library, part 8. -/
set_option linter.unusedVariables false
set_option linter.unusedSimpArgs false
namespace Go.Proofs.YtjmldlknegbimaaGreatDoor.Sx
open Go Go.RowKit

def oneA : AV → Bool
  | .d (.agg _) => false
  | .d (.tup _) => false
  | .agg _ => false
  | .tup _ => false
  | .junk => false
  | .dfr _ => false
  | _ => true

def splice (cur : Array Value) (k : Nat) (vs : List Value) : Array Value := (cur.toList.take k ++ vs ++ cur.toList.drop (k + vs.length)).toArray

section
variable {P : Program} {X : Cxt} {K K' : Mem} {ι ι' : Nat → Pl} {n : Nat} {H : List HO} {w w' : World}

theorem oneA_cell {x : AV} {v : Value} (h : oneA x = true) (hx : RelA K ι n x v) : v.oneCell' = true := by
  cases hx with
  | d x v h' => cases h' <;> first | rfl | (simp [oneA] at h)
  | tsl tok es v h' _ _ _ => cases h' <;> rfl
  | ptr => rfl
  | bsl => rfl
  | clo => rfl
  | mp => rfl
  | yld => rfl
  | dfr => simp [oneA] at h
  | agg => simp [oneA] at h
  | tup => simp [oneA] at h
  | junk => simp [oneA] at h

theorem splice_size {cur : Array Value} {k : Nat} {vs : List Value} (h : k + vs.length ≤ cur.size) : (splice cur k vs).size = cur.size := by
  simp [splice]; omega

theorem splice_get {cur : Array Value} {k : Nat} {vs : List Value} (h : k + vs.length ≤ cur.size) (i : Nat) :
    (splice cur k vs).getD i undef = if k ≤ i ∧ i < k + vs.length then vs.getD (i - k) undef else cur.getD i undef := by
  simp only [splice, Array.getD_eq_getD_getElem?, List.getElem?_toArray, List.getElem?_append, List.length_append, List.length_take, List.getElem?_take, List.getElem?_drop, Array.length_toList, List.getD_eq_getElem?_getD]
  rw [show min k cur.size = k from by omega]
  by_cases c1 : i < k
  · rw [if_pos (by omega), if_pos c1, if_pos c1, if_neg (by omega)]; simp
  · by_cases c2 : i < k + vs.length
    · rw [if_pos c2, if_neg c1, if_pos (by omega)]
    · rw [if_neg c2, if_neg (by omega), show k + vs.length + (i - (k + vs.length)) = i from by omega]; simp

theorem splice_nil (cur : Array Value) (k : Nat) : splice cur k [] = cur := by
  simp [splice]

theorem setRow_frozen (w : World) (g : Nat) (cs : Array Value) (a : Addr) : (w.setRow g cs).frozen? a = w.frozen? a := by
  unfold World.frozen?
  by_cases h : a.block = g
  · subst h
    unfold World.setRow
    simp only [Array.getElem?_modify, if_true]
    cases hc : w.heap[a.block]? with
    | none => simp
    | some o => cases o <;> simp
  · rw [setRow_other w g a.block cs h]

theorem setRow_id (w : World) (g : Nat) (cur : Array Value) (t : TypeId) (fr : Nat × Nat) (hg : w.heap[g]? = some (.cells cur t fr)) : w.setRow g cur = w := by
  have hlt : g < w.heap.size := (Array.getElem?_eq_some_iff.1 hg).1
  have hv : w.heap[g] = .cells cur t fr := (Array.getElem?_eq_some_iff.1 hg).2
  unfold World.setRow
  cases w with
  | mk heap tape drawn os output =>
    congr 1
    apply Array.ext
    · simp
    · intro k h1 h2
      simp only [Array.getElem_modify]
      split
      · rename_i hk; subst hk; simp at hv; simp [hv]
      · rfl

theorem run_storeCells_any (g o : Nat) (t : TypeId) (fr : Nat × Nat) : ∀ (vs : List Value) (i : Nat) (cur : Array Value) (w : World), w.heap[g]? = some (.cells cur t fr) → o + i + vs.length ≤ cur.size →
    (∀ v ∈ vs, v.oneCell' = true) → (∀ q, o + i ≤ q → q < o + i + vs.length → w.frozen? ⟨g, q, none⟩ = false) →
    (storeCells ⟨g, o, none⟩ vs i).run P w = .ok () (w.setRow g (splice cur (o + i) vs))
  | [], i, cur, w, hg, _, _, _ => by
    rw [splice_nil, setRow_id w g cur t fr hg]
    rfl
  | v :: rest, i, cur, w, hg, hl, h1, hf => by
    have hi : o + i < cur.size := by simp at hl; omega
    have hadd : (⟨g, o, none⟩ : Addr).add i = ⟨g, o + i, none⟩ := Addr.add_mk g o i
    have hcell : w.cell? ⟨g, o + i, none⟩ = some cur[o + i] := by simp [World.cell?, hg, hi]
    have hfro : w.frozen? ⟨g, o + i, none⟩ = false := hf _ (Nat.le_refl _) (by simp)
    have hst : (store ((⟨g, o, none⟩ : Addr).add i) v).run P w = .ok () (w.setRow g (cur.setIfInBounds (o + i) v)) := by
      rw [hadd, run_store P w _ v _ (h1 v (by simp)), hcell]
      simp [hfro, setCell_eq_setRow w g (o + i) cur t fr v hg]
    have ih := run_storeCells_any g o t fr rest (i + 1) (cur.setIfInBounds (o + i) v) (w.setRow g (cur.setIfInBounds (o + i) v)) (setRow_heap w g cur _ t _ hg) (by simp at hl ⊢; omega)
      (fun x hx => h1 x (by simp [hx])) (fun q hq hq' => by rw [setRow_frozen]; exact hf q (by omega) (by simp; omega))
    simp only [storeCells, Sem.run_bind, hst, Result.andThen_ok, ih, setRow_setRow]
    congr 2
    apply Array.ext
    · rw [splice_size (by simp at hl ⊢; omega), splice_size hl]; simp
    · intro q h1 h2
      have e1 := splice_get (cur := cur.setIfInBounds (o + i) v) (k := o + (i + 1)) (vs := rest) (by simp at hl ⊢; omega) q
      have e2 := splice_get (cur := cur) (k := o + i) (vs := v :: rest) hl q
      have g1 : (splice (cur.setIfInBounds (o + i) v) (o + (i + 1)) rest).getD q undef = (splice (cur.setIfInBounds (o + i) v) (o + (i + 1)) rest)[q] := by simp [Array.getD, h1]
      have g2 : (splice cur (o + i) (v :: rest)).getD q undef = (splice cur (o + i) (v :: rest))[q] := by simp [Array.getD, h2]
      rw [← g1, ← g2, e1, e2]
      by_cases c1 : o + (i + 1) ≤ q ∧ q < o + (i + 1) + rest.length
      · rw [if_pos c1, if_pos (by simp; omega), show q - (o + i) = (q - (o + (i + 1))) + 1 from by omega]; simp
      · rw [if_neg c1]
        by_cases c2 : q = o + i
        · subst c2; rw [if_pos (by simp)]; simp [Array.getD, hi]
        · rw [if_neg (by simp; omega)]
          simp [Array.getD_eq_getD_getElem?, Array.getElem?_setIfInBounds, Ne.symm c2]

/-! Stores into a box -/
theorem objOk.setRow {B b : Nat} {pl : Pl} {q : HO} {cs : Array Value} (ho : objOk K ι n w B pl q) (hb : ¬ owns q pl b) : objOk K ι n (w.setRow b cs) B pl q := by
  cases q with
  | box ds =>
    obtain ⟨h1, vs, ty, fz, h2, h3, h4, h5, h6⟩ := ho
    have hne : pl.block ≠ b := fun e => hb e.symm
    exact ⟨h1, vs, ty, fz, by rw [setRow_other _ _ _ _ hne]; exact h2, h3, fun o => by rw [setRow_frozen]; exact h4 o, h5, h6⟩
  | tok sz m =>
    obtain ⟨h1, h2⟩ := ho
    refine ⟨h1, h2.imp id ?_⟩
    rintro ⟨a, cap, e, hle, hs⟩
    refine ⟨a, cap, e, hle, fun hlt => ?_⟩
    have hne : pl.tb ≠ b := fun e' => hb ⟨e'.symm, a, cap, e, hlt⟩
    obtain ⟨g1, g2, g3, vs, ty, fz, g4, g5, g6⟩ := hs hlt
    exact ⟨g1, g2, g3, vs, ty, fz, by rw [setRow_other _ _ _ _ hne]; exact g4, g5, fun o ho => by rw [setRow_frozen]; exact g6 o ho⟩
  | dead => trivial
  | mp es =>
    obtain ⟨h1, ents, clock, h2, h3⟩ := ho
    have hne : pl.block ≠ b := fun e => hb e.symm
    exact ⟨h1, ents, clock, by rw [setRow_other _ _ _ _ hne]; exact h2, h3⟩
  | loop st vals ps assign body =>
    obtain ⟨h1, fn, tmps, D, h2, h3, h4⟩ := ho
    have hne : pl.block ≠ b := fun e => hb e.symm
    exact ⟨h1, fn, tmps, D, by rw [setRow_other _ _ _ _ hne]; exact h2, h3, h4⟩
  | dfrAt D =>
    obtain ⟨h1, h2, h3⟩ := ho
    have hne : pl.block ≠ b := fun e => hb e.symm
    exact ⟨h1, h2, by rw [setRow_other _ _ _ _ (by rw [← h2]; exact hne)]; exact h3⟩
  | bld T e l => exact bdOk.frame ho (setRow_other _ _ _ _ (fun e => hb (.inl e.symm))) (fun hl => setRow_other _ _ _ _ (fun e => hb (.inr ⟨hl, e.symm⟩))) (fun _ => rfl) (fun _ _ => rfl)

theorem below_setRow {w0 : World} {b : Nat} {cs : Array Value} (h : Below w0.heap.size w0 w) (hb : w0.heap.size ≤ b) : Below w0.heap.size w0 (w.setRow b cs) :=
  h.trans ⟨rfl, rfl, rfl, by simp, fun k hk => setRow_other _ _ _ _ (by omega)⟩

theorem agree_setRow {b : Nat} {cs : Array Value} (h : Agree K w) (hb : ∀ o, K ⟨b, o, none⟩ = none) : Agree K (w.setRow b cs) := fun a v e => by
  have hne : a.block ≠ b := by
    intro hc
    obtain ⟨blk, off, spot⟩ := a
    simp only at hc; subst hc
    cases spot with
    | none => rw [hb] at e; contradiction
    | some s =>
      have := h _ _ e
      unfold World.cell? at this
      simp only [Option.isSome_some, if_true] at this
      split at this <;> contradiction
  rw [cell_setRow_other _ _ _ _ hne]; exact h a v e

theorem SR.setBox {id : Nat} {cs cs' : List AV} {vs' : Array Value} (h : SR X K ι H w) (hid : H[id]? = some (.box cs)) (hl : vs'.size = cs'.length) (hl' : cs'.length = cs.length)
    (hr : ∀ j, j < cs'.length → RelA K ι H.length (cs'.getD j .junk) (vs'.getD j undef)) :
    ∃ ι', SR X K ι' (H.set id (.box cs')) (w.setRow (ι id).block vs') ∧ Pls.le H.length ι ι' := by
  obtain ⟨h1, vs, ty, fz, h2, h3, h4, h5, h6⟩ := h.obj id _ hid
  have hsz : X.w0.heap.size ≤ (ι id).block := h1
  have := h.set (K' := K) (w' := w.setRow (ι id).block vs') hid (ι id) (.box cs') (Mem.le_refl K) (agree_setRow h.agree h6) (below_setRow h.below h1) h.kold ⟨rfl, Nat.le_refl _, fun _ => rfl⟩
    (fun i q hi hq => (h.obj i q hq).setRow (fun ho => hi (h.sep i id q (.box cs) _ hq hid ho rfl)))
    ⟨h1, vs', ty, fz, setRow_heap w _ vs vs' ty fz h2, hl, fun o => by rw [setRow_frozen]; exact h4 o, fun j hj => (hr j hj).mono (Mem.le_refl K) (Nat.le_refl _) (fun i hi => by
      by_cases hc : i = id
      · subst hc; rw [place_same]; exact ⟨rfl, Nat.le_refl _, fun _ => rfl⟩
      · rw [place_other _ _ _ _ hc]; exact ⟨rfl, Nat.le_refl _, fun _ => rfl⟩), h6⟩
    (fun b hb i q hi hq ho => hi (h.sep i id q (.box cs) b hq hid ho hb))
  exact ⟨_, this.1, this.2⟩

def stA (H : List HO) (id off : Nat) (vc : List AV) : Option (List HO) :=
  match H[id]? with
  | some (.box cs) => if off + vc.length ≤ cs.length ∧ vc.all oneA = true then some (H.set id (.box (cs.take off ++ vc ++ cs.drop (off + vc.length)))) else none
  | _ => none

theorem getD_splice {α : Type} (cs vc : List α) (off : Nat) (d : α) (h : off + vc.length ≤ cs.length) (i : Nat) :
    (cs.take off ++ vc ++ cs.drop (off + vc.length)).getD i d = if off ≤ i ∧ i < off + vc.length then vc.getD (i - off) d else cs.getD i d := by
  simp only [List.getD_eq_getElem?_getD, List.getElem?_append, List.length_append, List.length_take, List.getElem?_take, List.getElem?_drop]
  rw [show min off cs.length = off from by omega]
  by_cases c1 : i < off
  · rw [if_pos (by omega), if_pos c1, if_pos c1, if_neg (by omega)]
  · by_cases c2 : i < off + vc.length
    · rw [if_pos c2, if_neg c1, if_pos (by omega)]
    · rw [if_neg c2, if_neg (by omega), show off + vc.length + (i - (off + vc.length)) = i from by omega]

theorem stA_sound {id off : Nat} {vc : List AV} {H' : List HO} {vs : List Value} (h : stA H id off vc = some H') (hsr : SR X K ι H w) (hl : vs.length = vc.length)
    (hr : ∀ i, i < vc.length → RelA K ι H.length (vc.getD i .junk) (vs.getD i undef)) :
    ∃ w' ι', (storeCells ⟨(ι id).block, off, none⟩ vs).run P w = .ok () w' ∧ SR X K ι' H' w' ∧ Pls.le H.length ι ι' ∧ H.length = H'.length := by
  unfold stA at h
  split at h
  · rename_i cs hid
    split at h
    · rename_i hc
      obtain ⟨hc1, hc2⟩ := hc
      simp only [Option.some.injEq] at h; subst h
      obtain ⟨h1, cur, ty, fz, h2, h3, h4, h5, h6⟩ := hsr.obj id _ hid
      have hone : ∀ v ∈ vs, v.oneCell' = true := fun v hv => by
        obtain ⟨i, hi, rfl⟩ := List.getElem_of_mem hv
        have := hr i (by omega)
        simp only [List.getD_eq_getElem?_getD, hi, List.getElem?_eq_getElem, Option.getD_some] at this
        refine oneA_cell ?_ this
        rw [List.getElem?_eq_getElem (by omega)]
        exact List.all_eq_true.1 hc2 _ (List.getElem_mem _)
      have hrun := run_storeCells_any (P := P) (ι id).block off ty fz vs 0 cur w h2 (by omega) hone (fun q _ _ => h4 q)
      obtain ⟨ι', g1, g2⟩ := hsr.setBox (cs' := cs.take off ++ vc ++ cs.drop (off + vc.length)) (vs' := splice cur off vs) hid
        (by rw [splice_size (by omega)]; simp; omega) (by simp; omega) (fun j hj => by
          have hj' : j < cs.length := by simp at hj; omega
          rw [getD_splice cs vc off _ hc1 j, splice_get (by omega) j, hl]
          split
          · exact hr _ (by omega)
          · exact h5 j hj')
      exact ⟨_, ι', hrun, g1, g2, by simp⟩
    · contradiction
  · contradiction

/-! New rows that are known for good -/
def kAdd (K : Mem) (b lo hi : Nat) (vs : Array Value) : Mem := fun a =>
  if a.block = b ∧ a.spot = none ∧ lo ≤ a.off ∧ a.off < hi then some (vs.getD a.off undef) else K a

theorem Ext.row (h : Agree K w) (vs : Array Value) (ty : TypeId) (hi : Nat) (hk : hi ≤ vs.size) : Ext K w (kAdd K w.heap.size 0 hi vs) (w.alloc (.cells vs ty)) where
  le := fun a v e => by
    have := h.lt e
    unfold kAdd
    rw [if_neg (by omega)]; exact e
  old := fun a ha => by unfold kAdd; rw [if_neg (by omega)]
  agree := fun a v e => by
    unfold kAdd at e
    split at e
    · rename_i hc
      obtain ⟨c1, c2, c3, c4⟩ := hc
      simp only [Option.some.injEq] at e; subst e
      obtain ⟨blk, off, spot⟩ := a
      simp only at c1 c2 c3 c4
      subst c1; subst c2
      rw [World.cell?_alloc_new]
      simp [Array.getD, show off < vs.size from by omega]
    · exact agree_alloc h _ a v e
  below := (Below.refl _ _).alloc (Nat.le_refl _) _

theorem Ext.rowF (h : Agree K w) (vs : Array Value) (ty : TypeId) (fz : Nat × Nat) (hi : Nat) (hk : hi ≤ vs.size) : Ext K w (kAdd K w.heap.size 0 hi vs) (w.drew.alloc (.cells vs ty fz)) where
  le := fun a v e => by
    have := h.lt e
    unfold kAdd
    rw [if_neg (by omega)]; exact e
  old := fun a ha => by unfold kAdd; rw [if_neg (by omega)]
  agree := fun a v e => by
    unfold kAdd at e
    split at e
    · rename_i hc
      obtain ⟨c1, c2, c3, c4⟩ := hc
      simp only [Option.some.injEq] at e; subst e
      obtain ⟨blk, off, spot⟩ := a
      simp only at c1 c2 c3 c4
      subst c1; subst c2
      have hb : (w.drew.alloc (.cells vs ty fz)).heap[w.heap.size]? = some (.cells vs ty fz) := heap_alloc_new w.drew _
      unfold World.cell?
      simp only [hb]
      simp [Array.getD, show off < vs.size from by omega]
    · exact agree_alloc (fun a v e => by simpa using h a v e) _ a v e
  below := ((Below.refl _ _).drew).alloc (Nat.le_refl _) _

theorem rel_row {es : List (List DV)} {sz b o cap : Nat} {vs : Array Value} {st : St} (hst : st ≠ .nil) (hf : st = .full → cap = es.length) (hcap : es.length ≤ cap) (hz : szOk sz es = true)
    (hK : ∀ q, o ≤ q → q < o + es.length * sz → K ⟨b, q, none⟩ = some (vs.getD q undef))
    (hr : ∀ i j, i < es.length → j < sz → Rel K ((es.getD i []).getD j .nilp) (vs.getD (o + (i * sz + j)) undef)) : Rel K (.sl st es) (.slice (some ⟨b, o, none⟩) es.length cap) := by
  refine .sl st es ⟨b, o, none⟩ cap sz (fun i j => vs.getD (o + (i * sz + j)) undef) hst hf hcap (fun i hi => szOk_get hz hi) (fun i j hi hj => ?_) hr
  rw [Addr.add_mk]
  refine hK _ (by omega) ?_
  have : (i + 1) * sz ≤ es.length * sz := Nat.mul_le_mul_right _ hi
  rw [Nat.add_mul] at this
  omega

/-- The cells that a slice's elements are. -/
theorem sl_cells {es : List (List DV)} {v : Value} {z : Nat} (h : Rel K (.sl .any es) v) (hz : szOk z es = true) :
    ∃ olds : List Value, olds.length = es.length * z ∧ (∀ w, Agree K w → (Builtin.firstCells z es.length v).run P w = .ok olds.toArray w) ∧
      (∀ i j, i < es.length → j < z → Rel K ((es.getD i []).getD j .nilp) (olds.getD (i * z + j) undef)) ∧ ∃ base cap, v = .slice base es.length cap ∧ es.length ≤ cap ∧ (base = none → es = [] ∧ cap = 0) := by
  cases h with
  | slnil => exact ⟨[], by simp, fun w _ => by simp [Builtin.firstCells], by simp, none, 0, rfl, Nat.le_refl _, fun _ => ⟨rfl, rfl⟩⟩
  | sl _ _ a cap sz val hst hf hc hzz hK hr =>
    by_cases hes : es.length = 0
    · obtain rfl : es = [] := List.length_eq_zero_iff.1 hes
      exact ⟨[], by simp, fun w _ => by simp [Builtin.firstCells, loadCells, loadCellsFrom], by simp, _, cap, rfl, Nat.zero_le _, by simp⟩
    · have h1 := hzz 0 (by omega)
      have h2 := szOk_get hz (i := 0) (by omega)
      obtain rfl : sz = z := by omega
      refine ⟨(List.range (es.length * sz)).map (fun q => val (q / sz) (q % sz)), by simp, fun w hw => ?_, fun i j hi hj => ?_, _, cap, rfl, hc, by simp⟩
      · have hlen : ((List.range (es.length * sz)).map (fun q => val (q / sz) (q % sz))).length = es.length * sz := by simp
        refine run_firstCells_some w sz es.length a es.length cap _ hlen (fun q v hq => ?_)
        simp only [List.getElem?_map, Option.map_eq_some_iff] at hq
        obtain ⟨q', hq1, rfl⟩ := hq
        have hq2 := List.getElem?_eq_some_iff.1 hq1
        obtain ⟨hq3, hq4⟩ := hq2
        simp at hq3 hq4
        subst hq4
        have hsz : 0 < sz := by
          rcases Nat.eq_zero_or_pos sz with rfl | hp
          · simp at hq3
          · exact hp
        have hlt : q / sz < es.length := Nat.div_lt_of_lt_mul (by rw [Nat.mul_comm]; exact hq3)
        have := hw _ _ (hK (q / sz) (q % sz) hlt (Nat.mod_lt _ hsz))
        rwa [Nat.mul_comm, Nat.div_add_mod] at this
      · have hlt : i * sz + j < es.length * sz := by
          have : (i + 1) * sz ≤ es.length * sz := Nat.mul_le_mul_right _ hi
          rw [Nat.add_mul] at this
          omega
        have hsz : 0 < sz := by omega
        have e1 : (i * sz + j) / sz = i := by
          rw [Nat.mul_comm, Nat.mul_add_div hsz, Nat.div_eq_of_lt hj]; rfl
        have e2 : (i * sz + j) % sz = j := by
          rw [Nat.mul_comm, Nat.mul_add_mod, Nat.mod_eq_of_lt hj]
        have : ((List.range (es.length * sz)).map (fun q => val (q / sz) (q % sz))).getD (i * sz + j) undef = val i j := by
          simp [List.getD_eq_getElem?_getD, hlt, e1, e2]
        rw [this]
        exact hr i j hi hj

theorem str_cells (s : List UInt8) (w : World) : (Builtin.firstCells 1 s.length (.string ⟨s.toArray⟩)).run P w = .ok (s.map fun b => Value.int .u8 b.toNat).toArray w := by
  simp only [Builtin.firstCells]
  have : (⟨s.toArray⟩ : ByteArray).extract 0 s.length = ⟨s.toArray⟩ := by
    apply ByteArray.ext
    simp [ByteArray.data_extract]
  rw [this]
  simp

end
end Go.Proofs.YtjmldlknegbimaaGreatDoor.Sx

/- Append at a token. Own library, part 9. -/
set_option linter.unusedVariables false
set_option linter.unusedSimpArgs false
namespace Go.Proofs.YtjmldlknegbimaaGreatDoor.Sx
open Go Go.RowKit

def oneD (d : DV) : Bool := oneA (.d d)
/-- All elements have so many cells, each of which can be stored. -/
def elOk (z : Nat) (es : List (List DV)) : Bool := es.all (fun c => c.length == z && c.all oneD)

section
variable {P : Program} {X : Cxt} {K K' : Mem} {ι ι' : Nat → Pl} {n : Nat} {H : List HO} {w w' : World}

theorem elOk_map {α : Type} {z : Nat} (f : α → List DV) (xs : List α) (h : ∀ x, (f x).length = z ∧ (f x).all oneD = true) : elOk z (xs.map f) = true := by
  simp only [elOk, List.all_map, List.all_eq_true, Function.comp]
  intro x _
  simp [(h x).1, (h x).2]
theorem elOk_nil (z : Nat) : elOk z [] = true := rfl
theorem elOk_cons (z : Nat) (c : List DV) (es : List (List DV)) : elOk z (c :: es) = ((c.length == z && c.all oneD) && elOk z es) := by simp [elOk]
theorem elOk_append (z : Nat) (es es' : List (List DV)) : elOk z (es ++ es') = (elOk z es && elOk z es') := by simp [elOk]
theorem elOk_take (z k : Nat) (es : List (List DV)) (h : elOk z es = true) : elOk z (es.take k) = true := by
  simp only [elOk, List.all_eq_true] at *
  exact fun c hc => h c (List.mem_of_mem_take hc)
theorem elOk_drop (z k : Nat) (es : List (List DV)) (h : elOk z es = true) : elOk z (es.drop k) = true := by
  simp only [elOk, List.all_eq_true] at *
  exact fun c hc => h c (List.mem_of_mem_drop hc)
theorem elOk_sz {z : Nat} {es : List (List DV)} (h : elOk z es = true) : szOk z es = true := by
  simp only [elOk, szOk, List.all_eq_true, Bool.and_eq_true] at *
  exact fun c hc => (h c hc).1

theorem elOk_one {z : Nat} {es : List (List DV)} (h : elOk z es = true) {i j : Nat} (hi : i < es.length) (hj : j < z) : oneD ((es.getD i []).getD j .nilp) = true := by
  have hsz := szOk_get (elOk_sz h) hi
  simp only [elOk, List.all_eq_true, Bool.and_eq_true] at h
  have := (h es[i] (List.getElem_mem hi)).2
  have e : es.getD i [] = es[i] := by simp [List.getD_eq_getElem?_getD, hi]
  rw [e] at hsz ⊢
  have hj' : j < es[i].length := by omega
  have e2 : es[i].getD j .nilp = es[i][j] := by simp [List.getD_eq_getElem?_getD, hj']
  rw [e2]
  exact this _ (List.getElem_mem hj')

/-- A slice that is nil, or full, can be handed a token. -/
theorem SR.ghostTok {st : St} {es : List (List DV)} {v : Value} (sz : Nat) (h : SR X K ι H w) (hst : st ≠ .any) (hr : Rel K (.sl st es) v) :
    ∃ p, SR X K (place ι H.length p) (H ++ [.tok sz es.length]) w ∧ RelA K (place ι H.length p) (H.length + 1) (.tsl H.length es) v ∧ Pls.le H.length ι (place ι H.length p) := by
  refine ⟨⟨0, v, es.length, 0⟩, h.push h _ _ ⟨rfl, ?_⟩ ?_, ?_, place_le _ _ _⟩
  · cases hr with
    | slnil => exact .inl ⟨rfl, rfl⟩
    | sl _ _ a cap z val hst' hf hc hz hK hrr =>
      have hfull : st = .full := by cases st <;> simp_all
      have hcap := hf hfull
      exact .inr ⟨a, cap, rfl, hc, fun hlt => by omega⟩
  · rintro b ⟨_, a, cap, hcur, hlt⟩
    cases hr with
    | slnil => simp at hcur
    | sl _ _ a' cap' z val hst' hf hc hz hK hrr =>
      have hfull : st = .full := by cases st <;> simp_all
      have hcap := hf hfull
      simp at hcur
      omega
  · refine .tsl _ _ _ hr.any (by omega) ?_ ?_
    · rw [place_same]; exact Nat.le_refl _
    · rw [place_same]; exact fun _ => rfl

theorem objOk.setRow' {B b : Nat} {pl : Pl} {q : HO} {cs : Array Value} (ho : objOk K ι n w B pl q) (hb : ¬ owns q pl b) (hle : Mem.le K K') (hk : ∀ a : Addr, a.block ≠ b → K' a = K a) :
    objOk K' ι n (w.setRow b cs) B pl q := by
  cases q with
  | box ds =>
    obtain ⟨h1, vs, ty, fz, h2, h3, h4, h5, h6⟩ := ho
    have hne : pl.block ≠ b := fun e => hb e.symm
    exact ⟨h1, vs, ty, fz, by rw [setRow_other _ _ _ _ hne]; exact h2, h3, fun o => by rw [setRow_frozen]; exact h4 o, fun j hj => (h5 j hj).mono hle (Nat.le_refl _) (Pls.le_refl _ _), fun o => by rw [hk _ hne]; exact h6 o⟩
  | tok sz m =>
    obtain ⟨h1, h2⟩ := ho
    refine ⟨h1, h2.imp id ?_⟩
    rintro ⟨a, cap, e, hle', hs⟩
    refine ⟨a, cap, e, hle', fun hlt => ?_⟩
    have hne : pl.tb ≠ b := fun e' => hb ⟨e'.symm, a, cap, e, hlt⟩
    obtain ⟨g1, g2, g3, vs, ty, fz, g4, g5, g6⟩ := hs hlt
    exact ⟨g1, g2, g3, vs, ty, fz, by rw [setRow_other _ _ _ _ hne]; exact g4, g5, fun o ho => by rw [setRow_frozen, hk _ hne]; exact g6 o ho⟩
  | dead => trivial
  | mp es =>
    obtain ⟨h1, ents, clock, h2, h3⟩ := ho
    have hne : pl.block ≠ b := fun e => hb e.symm
    exact ⟨h1, ents, clock, by rw [setRow_other _ _ _ _ hne]; exact h2, h3.mono hle⟩
  | loop st vals ps assign body =>
    obtain ⟨h1, fn, tmps, D, h2, h3, h4⟩ := ho
    have hne : pl.block ≠ b := fun e => hb e.symm
    exact ⟨h1, fn, tmps, D, by rw [setRow_other _ _ _ _ hne]; exact h2, h3, fun p hp => (h4 p hp).mono hle (Nat.le_refl _) (Pls.le_refl _ _)⟩
  | dfrAt D =>
    obtain ⟨h1, h2, h3⟩ := ho
    have hne : pl.block ≠ b := fun e => hb e.symm
    exact ⟨h1, h2, by rw [setRow_other _ _ _ _ (by rw [← h2]; exact hne)]; exact h3⟩
  | bld T e l =>
    have n1 : pl.block ≠ b := fun e => hb (.inl e.symm)
    have n2 : pl.len = 1 → pl.tb ≠ b := fun hl e => hb (.inr ⟨hl, e.symm⟩)
    exact bdOk.frame ho (setRow_other _ _ _ _ n1) (fun hl => setRow_other _ _ _ _ (n2 hl)) (fun o => hk _ n1) (fun hl o => hk _ (n2 hl))

/-- What is appended: its elements, and that their cells are read. -/
structure Src (P : Program) (K : Mem) (z : Nat) (new : List (List DV)) (x : Value) (w : World) (news : List Value) : Prop where
  len : (Builtin.lenOf x) = pure new.length
  nlen : news.length = new.length * z
  run : ∀ w', (∀ a v, K a = some v → w'.cell? a = some v) → (Builtin.firstCells z new.length x).run P w' = .ok news.toArray w'
  rel : ∀ i j, i < new.length → j < z → Rel K ((new.getD i []).getD j .nilp) (news.getD (i * z + j) undef)

def srcK : TK → Bool
  | .string => true
  | .slice _ => true
  | _ => false

theorem srcK_under {tX : TypeId} {kX : TK} (hX : tk P tX = some kX) (hX' : srcK kX = true) : P.underlying tX = some .string ∨ ∃ u, P.underlying tX = some (.slice u) := by
  cases kX <;> simp [srcK] at hX'
  · exact .inl (tk_string hX)
  · exact .inr ⟨_, tk_slice hX⟩

theorem run_app_room {tS tX e : TypeId} {z : Nat} {kX : TK} (hS : tk P tS = some (.slice e)) (hz : tsz P e = some z) (hX : tk P tX = some kX) (hX' : srcK kX = true)
    (ty : TypeId) (base : Option Addr) (m cap : Nat) (x : Value) {k : Nat} (hlen : Builtin.lenOf x = pure k) {news : Array Value} (hn : (Builtin.firstCells z k x).run P w = .ok news w) (hroom : m + k ≤ cap) :
    (Builtin.append_ #[tS, tX] ty #[.slice base m cap, x]).run P w =
      match base with
      | none => .ok (.slice none (m + k) cap) w
      | some a => ((storeCells (a.add (m * z)) news.toList).run P w).andThen fun _ w' => .ok (.slice (some a) (m + k) cap) w' := by
  rcases srcK_under hX hX' with hd | ⟨u, hd⟩ <;> cases base <;>
    simp [Builtin.append_, run_underlying (tk_slice hS), run_underlying hd, run_sizeOf' hz, hlen, hn, hroom]

theorem run_app_grow {tS tX e : TypeId} {z by_ : Nat} {zv : Value} {kX : TK} (hS : tk P tS = some (.slice e)) (hz : tsz P e = some z) (hb : tby P e = some by_) (hzv : tz P e = some zv)
    (hX : tk P tX = some kX) (hX' : srcK kX = true) (ty : TypeId) (base : Option Addr) (m cap : Nat) (x : Value) {k : Nat} (hlen : Builtin.lenOf x = pure k) {olds news : Array Value}
    (ho : (Builtin.firstCells z m (.slice base m cap)).run P w.drew = .ok olds w.drew) (hn : (Builtin.firstCells z k x).run P w.drew = .ok news w.drew) (hroom : cap < m + k)
    (h63 : m + k ≤ 9223372036854775807) (hfit : (m + k) * by_ ≤ 140737488355328) :
    (Builtin.append_ #[tS, tX] ty #[.slice base m cap, x]).run P w =
      .ok (.slice (some ⟨w.heap.size, 0, none⟩) (m + k) (grownCap w (m + k) cap e)) (w.drew.alloc (.cells (olds ++ news ++ Builtin.zeroCells zv.cells (grownCap w (m + k) cap e - (m + k))) e)) := by
  obtain ⟨i, hi, hib⟩ := run_bytesOf' hb w
  have h1 : ¬ (m + k ≤ cap) := by omega
  have h2 : ¬ (9223372036854775807 < ((m : Int) + (k : Int))) := by omega
  have h3 : ¬ (281474976710656 < Builtin.nextslicecap (m + k) cap * i.bytes) := by have := growslice_fits (need := m + k) (old := cap) hroom hfit; rw [hib]; omega
  have hi' : ∀ w', (typeInfo e).run P w' = .ok i w' := by
    intro w'
    unfold tby at hb
    cases hinfo : P.info? e with
    | none => rw [hinfo] at hb; simp at hb
    | some i' =>
      have := run_typeInfo w hinfo
      rw [this] at hi
      simp only [Result.ok.injEq] at hi
      rw [← hi.1]
      exact run_typeInfo w' hinfo
  rcases srcK_under hX hX' with hd | ⟨u, hd⟩ <;>
    simp [Builtin.append_, run_underlying (tk_slice hS), run_underlying hd, run_sizeOf' hz, hlen, h1, h2, h3, hi', Question.forced, ho, hn, run_zero' hzv, newRow, grownCap]

theorem app_list {α : Type} (a b : List α) (i : Nat) (d : α) : (a ++ b).getD i d = if i < a.length then a.getD i d else b.getD (i - a.length) d := by
  simp only [List.getD_eq_getElem?_getD, List.getElem?_append]
  split <;> rfl

/-- Append to the slice that a token speaks of. -/
theorem SR.append {tS tX e : TypeId} {z by_ : Nat} {zv : Value} {kX : TK} (hS : tk P tS = some (.slice e)) (hz : tsz P e = some z) (hb : tby P e = some by_) (hzv : tz P e = some zv)
    (hX : tk P tX = some kX) (hX' : srcK kX = true) (ty : TypeId) {tok : Nat} {es new : List (List DV)} {v x : Value} {news : List Value}
    (h : SR X K ι H w) (htok : H[tok]? = some (.tok z es.length)) (hv : RelA K ι H.length (.tsl tok es) v) (hes : szOk z es = true) (hnew : elOk z new = true)
    (hsrc : Src P K z new x w news) (hzz : zv.cells.size = z) (hfit : (es.length + new.length) * (by_ + 1) ≤ 1099511627776) :
    ∃ v' w', (Builtin.append_ #[tS, tX] ty #[v, x]).run P w = .ok v' w' ∧ Left X K ι H.length (H.set tok (.tok z (es.length + new.length))) (.tsl tok (es ++ new)) v' w' := by
  have hlt : tok < H.length := (List.getElem?_eq_some_iff.1 htok).1
  obtain ⟨hpl, hcur⟩ := h.obj tok _ htok
  cases hv with
  | tsl _ _ _ hrel _ hle hc =>
    have hvc := hc hpl.symm
    have hsmall : es.length + new.length ≤ 1099511627776 := Nat.le_trans (Nat.le_mul_of_pos_right _ (by omega)) hfit
    have hby : (es.length + new.length) * by_ ≤ 140737488355328 := by
      have : (es.length + new.length) * by_ ≤ (es.length + new.length) * (by_ + 1) := Nat.mul_le_mul_left _ (by omega)
      omega
    obtain ⟨olds, ho1, ho2, ho3, base, cap, hvs, hlec, hbase⟩ := sl_cells (P := P) hrel hes
    have hszn : szOk z (es ++ new) = true := by rw [szOk_append]; simp [hes, elOk_sz hnew]
    have hnone : ∀ (u : Value), u ∈ news → u.oneCell' = true := fun u hu => by
      obtain ⟨q, hq, rfl⟩ := List.getElem_of_mem hu
      have hzp : 0 < z := by
        rcases Nat.eq_zero_or_pos z with rfl | hp
        · have := hsrc.nlen; rw [Nat.mul_zero] at this; omega
        · exact hp
      have hq' : q < new.length * z := by rw [← hsrc.nlen]; exact hq
      have hi : q / z < new.length := Nat.div_lt_of_lt_mul (by rw [Nat.mul_comm]; exact hq')
      have hj : q % z < z := Nat.mod_lt _ hzp
      have hr := hsrc.rel (q / z) (q % z) hi hj
      rw [show q / z * z + q % z = q from by rw [Nat.mul_comm]; exact Nat.div_add_mod q z] at hr
      have e : news.getD q undef = news[q] := by simp [List.getD_eq_getElem?_getD, hq]
      rw [e] at hr
      exact oneA_cell (K := K) (ι := ι) (n := 0) (elOk_one hnew hi hj) (.d _ _ hr)
    -- the elements of the whole
    have hall : ∀ i j, i < (es ++ new).length → j < z → Rel K (((es ++ new).getD i []).getD j .nilp) ((olds ++ news).getD (i * z + j) undef) := fun i j hi hj => by
      rw [app_list es new i, app_list olds news (i * z + j)]
      by_cases hc : i < es.length
      · have hlt : i * z + j < olds.length := by
          rw [ho1]
          have : (i + 1) * z ≤ es.length * z := Nat.mul_le_mul_right _ hc
          rw [Nat.add_mul] at this; omega
        rw [if_pos hc, if_pos hlt]
        exact ho3 i j hc hj
      · have hge : es.length * z ≤ i * z := Nat.mul_le_mul_right _ (by omega)
        rw [if_neg hc, if_neg (by omega)]
        have := hsrc.rel (i - es.length) j (by simp at hi; omega) hj
        rw [show (i - es.length) * z + j = i * z + j - olds.length from by rw [Nat.sub_mul, ho1]; omega] at this
        exact this
    have htot : (olds ++ news).length = (es ++ new).length * z := by rw [List.length_append, List.length_append, ho1, hsrc.nlen, Nat.add_mul]
    -- the way of a new row
    have grow : cap < es.length + new.length → ∃ v' w', (Builtin.append_ #[tS, tX] ty #[v, x]).run P w = .ok v' w' ∧ Left X K ι H.length (H.set tok (.tok z (es.length + new.length))) (.tsl tok (es ++ new)) v' w' := by
      intro hg
      have hrun := run_app_grow (P := P) (w := w) hS hz hb hzv hX hX' ty base es.length cap x hsrc.len (olds := olds.toArray) (news := news.toArray)
        (by rw [← hvs]; exact ho2 _ (fun a u e => by simpa using h.agree a u e)) (hsrc.run _ (fun a u e => by simpa using h.agree a u e)) hg (by omega) hby
      rw [← hvs] at hrun
      have hge := grownCap_ge w (es.length + new.length) cap e
      generalize hC : grownCap w (es.length + new.length) cap e = C at hrun hge
      generalize hvs' : olds.toArray ++ news.toArray ++ Builtin.zeroCells zv.cells (C - (es.length + new.length)) = cells at hrun
      have hcs : (es ++ new).length * z ≤ cells.size := by rw [← hvs', ← htot]; simp
      have hgetc : ∀ q, q < (es ++ new).length * z → cells.getD q undef = (olds ++ news).getD q undef := fun q hq => by
        rw [← htot] at hq
        rw [← hvs']
        simp only [Array.getD_eq_getD_getElem?, List.getD_eq_getElem?_getD]
        rw [Array.getElem?_append_left (by simpa using hq)]
        simp
      have hx := Ext.row (K := K) (w := w.drew) (fun a u e => by simpa using h.agree a u e) cells e ((es ++ new).length * z) hcs
      have hsr1 : SR X K ι H w.drew := h.drew
      have hbk : w.drew.heap.size = w.heap.size := rfl
      have hnewrel : Rel (kAdd K w.heap.size 0 ((es ++ new).length * z) cells) (.sl .any (es ++ new)) (.slice (some ⟨w.heap.size, 0, none⟩) (es ++ new).length C) := by
        refine rel_row (sz := z) (vs := cells) (by simp) (by simp) (by simp; omega) hszn (fun q _ hq => ?_) (fun i j hi hj => ?_)
        · unfold kAdd
          rw [if_pos ⟨rfl, rfl, Nat.zero_le _, by simpa using hq⟩]
        · have hlt : i * z + j < (es ++ new).length * z := by
            have : (i + 1) * z ≤ (es ++ new).length * z := Nat.mul_le_mul_right _ hi
            rw [Nat.add_mul] at this; omega
          rw [Nat.zero_add, hgetc _ hlt]
          exact (hall i j hi hj).mono hx.le
      have hcap : C * z ≤ cells.size := by
        rw [← hvs']
        simp only [Array.size_append, List.size_toArray, size_zeroCells, hzz, ho1, hsrc.nlen, ← Nat.add_mul]
        exact Nat.mul_le_mul_right _ (by omega)
      rw [hbk] at hx
      have hlen2 : (es ++ new).length = es.length + new.length := by simp
      have hset := h.set (K' := kAdd K w.heap.size 0 ((es ++ new).length * z) cells) (w' := w.drew.alloc (.cells cells e)) htok
        ⟨(ι tok).block, .slice (some ⟨w.heap.size, 0, none⟩) (es.length + new.length) C, es.length + new.length, w.heap.size⟩ (.tok z (es.length + new.length)) hx.le hx.agree
        ((h.drew.below).trans (hx.below.mono h.size)) (fun a ha => by rw [hx.old a (Nat.lt_of_lt_of_le ha h.size)]; exact h.kold a ha)
        ⟨rfl, by rw [hpl]; simp, fun hce => by
          rw [hpl] at hce
          simp only at hce
          exfalso; omega⟩
        (fun i q _ hq => (h.obj i q hq).ext ⟨hx.le, hx.old, hx.agree, (Below.refl _ _).drew.trans hx.below⟩)
        ⟨rfl, .inr ⟨_, C, rfl, hge, fun _ => ⟨rfl, rfl, h.size, cells, e, (0, 0), heap_alloc_new w.drew _, by simpa using hcap, fun o ho => ⟨?_, ?_⟩⟩⟩⟩
        (fun b hb i q hi hq hoq => by
          obtain ⟨rfl, _⟩ := hb
          have := (owns_lt (h.obj i q hq) hoq).1
          simp only at this
          omega)
      rotate_left
      · unfold kAdd
        rw [if_neg (by simp only [not_and]; intro _ _ _; rw [hlen2]; simpa using ho)]
        exact none_of_ge h.agree (Nat.le_refl _)
      · exact World.frozen?_alloc_new w.drew cells e o
      refine ⟨_, _, hrun, _, _, hset.1, ?_, hx.le, hset.2, by simp⟩
      rw [List.length_set]
      refine .tsl _ _ _ (by rw [← hlen2]; exact hnewrel) hlt ?_ ?_
      · rw [place_same]; simp
      · rw [place_same]; exact fun _ => rfl
    by_cases hroom : es.length + new.length ≤ cap
    · -- the way within the capacity
      have hrun := run_app_room (P := P) (w := w) hS hz hX hX' ty base es.length cap x hsrc.len (news := news.toArray) (hsrc.run _ h.agree) hroom
      rw [← hvs] at hrun
      rcases hcur with ⟨hcn, hm0⟩ | ⟨a, cap', hca, hle', hsp⟩
      · -- nil stays nil
        rw [hvc, hcn] at hvs
        simp only [Value.slice.injEq] at hvs
        obtain ⟨rfl, _, rfl⟩ := hvs
        have hn0 : new.length = 0 := by omega
        obtain rfl : new = [] := List.length_eq_zero_iff.1 hn0
        refine ⟨_, w, hrun, K, ι, ?_, ?_, Mem.le_refl K, Pls.le_refl _ _, by simp⟩
        · simp only [List.length_nil, Nat.add_zero]
          rw [show H.set tok (.tok z es.length) = H from by
            apply List.ext_getElem?
            intro i
            by_cases hc : i = tok
            · subst hc; rw [List.getElem?_set_self hlt]; exact htok.symm
            · rw [List.getElem?_set_ne (by omega)]]
          exact h
        · simp only [List.append_nil, List.length_nil, Nat.add_zero, List.length_set]
          rw [show Value.slice none es.length 0 = v from by rw [hvc, hcn, hm0]]
          exact .tsl _ _ _ hrel hlt (by omega) hc
      · rw [hvc, hca] at hvs
        simp only [Value.slice.injEq] at hvs
        obtain ⟨hb1, _, hb2⟩ := hvs
        subst hb1
        have hb3 := hb2.symm
        subst hb3
        by_cases hk0 : new = []
        · subst hk0
          have hn0 : news = [] := List.eq_nil_of_length_eq_zero (by rw [hsrc.nlen]; simp)
          subst hn0
          simp only [storeCells, Sem.run_pure, Result.andThen_ok, List.length_nil, Nat.add_zero] at hrun
          refine ⟨_, w, hrun, K, ι, ?_, ?_, Mem.le_refl K, Pls.le_refl _ _, by simp⟩
          · simp only [List.length_nil, Nat.add_zero]
            rw [show H.set tok (.tok z es.length) = H from by
              apply List.ext_getElem?
              intro i
              by_cases hc : i = tok
              · subst hc; rw [List.getElem?_set_self hlt]; exact htok.symm
              · rw [List.getElem?_set_ne (by omega)]]
            exact h
          · simp only [List.append_nil, List.length_set]
            rw [← hca, ← hvc]
            exact .tsl _ _ _ hrel hlt (by omega) hc
        · have hnpos : 0 < new.length := List.length_pos_iff.2 hk0
          obtain ⟨q1, q2, q3, cur, ety, fz, q4, q5, q6⟩ := hsp (by omega)
          obtain ⟨blk, off, spot⟩ := a
          simp only at q1 q2; subst q1
          subst q2
          have hcz : (es.length + new.length) * z ≤ cap * z := Nat.mul_le_mul_right _ hroom
          rw [Nat.add_mul] at hcz
          have hnl := hsrc.nlen
          simp only at q5 q6
          have hst := run_storeCells_any (P := P) (ι tok).tb (off + es.length * z) ety fz news 0 cur w q4 (by rw [hnl]; omega) hnone (fun q hq _ => (q6 q (by omega)).2)
          simp only [Addr.add_mk] at hrun
          simp only [hst, Result.andThen_ok, Nat.add_zero] at hrun
          have hspl := splice_get (cur := cur) (k := off + es.length * z) (vs := news) (by rw [hnl]; omega)
          have hsps := splice_size (cur := cur) (k := off + es.length * z) (vs := news) (by rw [hnl]; omega)
          generalize hrow : splice cur (off + es.length * z) news = row at hrun hspl hsps
          have hKnone : ∀ q, off + es.length * z ≤ q → K ⟨(ι tok).tb, q, none⟩ = none := fun q hq => (q6 q hq).1
          have hle2 : Mem.le K (kAdd K (ι tok).tb (off + es.length * z) (off + (es.length + new.length) * z) row) := fun a u hau => by
            unfold kAdd
            rw [if_neg]; · exact hau
            rintro ⟨c1, c2, c3, c4⟩
            obtain ⟨b', o', s'⟩ := a
            simp only at c1 c2 c3
            subst c1; subst c2
            rw [hKnone _ c3] at hau; contradiction
          have hoth : ∀ a : Addr, a.block ≠ (ι tok).tb → (kAdd K (ι tok).tb (off + es.length * z) (off + (es.length + new.length) * z) row) a = K a := fun a ha => by
            unfold kAdd
            rw [if_neg]; rintro ⟨c1, _⟩; exact ha c1
          have hagr : Agree (kAdd K (ι tok).tb (off + es.length * z) (off + (es.length + new.length) * z) row) (w.setRow (ι tok).tb row) := fun a u hau => by
            by_cases hab : a.block = (ι tok).tb
            · obtain ⟨b', o', s'⟩ := a
              simp only at hab; subst hab
              unfold kAdd at hau
              split at hau
              · rename_i hcnd
                obtain ⟨_, c2, c3, c4⟩ := hcnd
                simp only at c2 c3 c4; subst c2
                simp only [Option.some.injEq] at hau; subst hau
                rw [cell_setRow_same w _ _ cur row ety fz q4]
                rw [Nat.add_mul] at c4
                have : o' < row.size := by omega
                simp [Array.getD, this]
              · rename_i hcnd
                have hc1 := h.agree _ _ hau
                cases s' with
                | some s => unfold World.cell? at hc1; simp only [Option.isSome_some, if_true] at hc1; split at hc1 <;> contradiction
                | none =>
                  have hlow : o' < off + es.length * z := by
                    rcases Nat.lt_or_ge o' (off + es.length * z) with h' | h'
                    · exact h'
                    · rw [hKnone _ h'] at hau; contradiction
                  rw [cell_setRow_same w _ _ cur row ety fz q4]
                  have hc2 : w.cell? ⟨(ι tok).tb, o', none⟩ = cur[o']? := by simp [World.cell?, q4]
                  rw [hc2] at hc1
                  have ho' : o' < cur.size := (Array.getElem?_eq_some_iff.1 hc1).1
                  have hg := hspl o'
                  rw [if_neg (by omega)] at hg
                  have g1 : row[o']? = some (row.getD o' undef) := by simp [Array.getD, show o' < row.size from by omega]
                  have g2 : cur[o']? = some (cur.getD o' undef) := by simp [Array.getD, ho']
                  rw [g1, hg, ← g2]; exact hc1
            · rw [hoth a hab] at hau
              rw [cell_setRow_other _ _ _ _ hab]
              exact h.agree _ _ hau
          have hset := h.set (K' := kAdd K (ι tok).tb (off + es.length * z) (off + (es.length + new.length) * z) row) (w' := w.setRow (ι tok).tb row) htok
            ⟨(ι tok).block, .slice (some ⟨(ι tok).tb, off, none⟩) (es.length + new.length) cap, es.length + new.length, (ι tok).tb⟩ (.tok z (es.length + new.length)) hle2 hagr
            (below_setRow h.below q3) (fun a ha => by
              rw [hoth a (by omega)]; exact h.kold a ha)
            ⟨rfl, by rw [hpl]; simp, fun hce => by
              rw [hpl] at hce
              simp only at hce
              exfalso; omega⟩
            (fun i q hi hq => (h.obj i q hq).setRow' (fun ho => hi (h.sep i tok q _ _ hq htok ho ⟨rfl, _, cap, hca, by omega⟩)) hle2 hoth)
            ⟨rfl, .inr ⟨_, cap, rfl, hroom, fun _ => ⟨rfl, rfl, q3, row, ety, fz, setRow_heap w _ cur row ety fz q4, by simp only; omega, fun o ho => ⟨by
              unfold kAdd
              rw [if_neg (by rintro ⟨_, _, _, c4⟩; simp only at c4 ho; omega)]
              exact hKnone _ (by simp only [Nat.add_mul] at ho; omega), by
              rw [setRow_frozen]
              exact (q6 o (by simp only [Nat.add_mul] at ho; omega)).2⟩⟩⟩⟩
            (fun b hb i q hi hq hoq => by
              obtain ⟨rfl, _⟩ := hb
              exact hi (h.sep i tok q _ _ hq htok hoq ⟨rfl, _, cap, hca, by omega⟩))
          refine ⟨_, _, hrun, _, _, hset.1, ?_, hle2, hset.2, by simp⟩
          rw [List.length_set]
          refine .tsl _ _ _ ?_ hlt ?_ ?_
          · have hlen2 : (es ++ new).length = es.length + new.length := by simp
            have hfin : Rel (kAdd K (ι tok).tb (off + es.length * z) (off + (es.length + new.length) * z) row) (.sl .any (es ++ new)) (.slice (some ⟨(ι tok).tb, off, none⟩) (es ++ new).length cap) := ?_
            · rw [hlen2] at hfin; exact hfin
            have hrel' : Rel K (.sl .any es) (.slice (some ⟨(ι tok).tb, off, none⟩) es.length cap) := by rw [← hca, ← hvc]; exact hrel
            cases hrel' with
            | sl _ _ _ _ sz0 val hst0 hf0 hc0 hz0 hK0 hr0 =>
              refine .sl .any (es ++ new) _ cap z (fun i j => if i < es.length then val i j else news.getD ((i - es.length) * z + j) undef) (by simp) (by simp) (by omega) (fun i hi => szOk_get hszn hi) (fun i j hi hj => ?_) (fun i j hi hj => ?_)
              · by_cases hie : i < es.length
                · have e1 := hz0 i hie
                  have e2 := szOk_get hes hie
                  obtain rfl : sz0 = z := by omega
                  simp only [hie, if_true]
                  exact hle2 _ _ (hK0 i j hie hj)
                · simp only [hie, if_false]
                  rw [Addr.add_mk]
                  have hge : es.length * z ≤ i * z := Nat.mul_le_mul_right _ (by omega)
                  have hup : (i + 1) * z ≤ (es ++ new).length * z := Nat.mul_le_mul_right _ hi
                  rw [hlen2, Nat.add_mul, Nat.add_mul] at hup
                  unfold kAdd
                  rw [if_pos ⟨rfl, rfl, by simp only; omega, by simp only [Nat.add_mul]; omega⟩]
                  have hq : off + es.length * z ≤ off + (i * z + j) ∧ off + (i * z + j) < off + es.length * z + news.length := ⟨by omega, by rw [hnl]; omega⟩
                  have hidx : off + (i * z + j) - (off + es.length * z) = (i - es.length) * z + j := by rw [Nat.sub_mul]; omega
                  rw [hspl, if_pos hq, hidx]
              · rw [app_list es new i]
                by_cases hie : i < es.length
                · have e1 := hz0 i hie
                  have e2 := szOk_get hes hie
                  obtain rfl : sz0 = z := by omega
                  simp only [hie, if_true]
                  exact (hr0 i j hie hj).mono hle2
                · simp only [hie, if_false]
                  exact (hsrc.rel _ j (by omega) hj).mono hle2
          · rw [place_same]; simp
          · rw [place_same]; exact fun _ => rfl
    · exact grow (by omega)

end
end Go.Proofs.YtjmldlknegbimaaGreatDoor.Sx

/- One step that uses the call's own memory, and its soundness. Own library, part 10. -/
set_option linter.unusedVariables false
set_option linter.unusedSimpArgs false
namespace Go.Proofs.YtjmldlknegbimaaGreatDoor.Sx
open Go Go.RowKit

/-- The elements of what is appended. -/
def srcA (z : Nat) (x : AV) : Option (List (List DV)) :=
  match x with
  | .d (.sl _ new) => some new
  | .tsl _ new => some new
  | .d (.str s) => if z = 1 then some (s.map byteEl) else none
  | _ => none

def srcKA (x : AV) : TK → Bool
  | .string => match x with | .d (.str _) => true | _ => false
  | .slice _ => match x with | .d (.str _) => false | _ => true
  | _ => false

def apB (H : List HO) (z by_ : Nat) (s : AV) (new : List (List DV)) : Option (AV × List HO) :=
  match s with
  | .d (.sl st es) => if st ≠ .any ∧ szOk z es = true ∧ (es.length + new.length) * (by_ + 1) ≤ 1099511627776 then some (.tsl H.length (es ++ new), H ++ [.tok z (es.length + new.length)]) else none
  | .tsl tok es =>
    match H[tok]? with
    | some (.tok z' m) => if z' = z ∧ m = es.length ∧ szOk z es = true ∧ (es.length + new.length) * (by_ + 1) ≤ 1099511627776 then some (.tsl tok (es ++ new), H.set tok (.tok z (es.length + new.length))) else none
    | _ => none
  | _ => none

def apA (P : Program) (H : List HO) (tS tX : TypeId) (s x : AV) : Option (AV × List HO) :=
  match tk P tS, tk P tX with
  | some (.slice e), some kX =>
    match tsz P e, tby P e, tz P e with
    | some z, some by_, some zv =>
      if zv.cells.size = z ∧ srcKA x kX = true then
        match srcA z x with
        | some new => if elOk z new = true then apB H z by_ s new else none
        | none => none
      else none
    | _, _, _ => none
  | _, _ => none

def chunk (s : Nat) : Nat → List DV → List (List DV)
  | 0, _ => []
  | k + 1, ds => ds.take s :: chunk s k (ds.drop s)

def zerosA (len : Nat) (zs : List AV) : List AV := (List.replicate len zs).flatten

def bsA (P : Program) (H : List HO) (t : TypeId) (len : Nat) (parts : List (Nat × AV)) : Option (AV × List HO) :=
  match tk P t with
  | some (.slice e) =>
    match tsz P e, tz P e with
    | some s, some zv =>
      if len * s ≤ 16777216 ∧ zv.cells.size = s then
        match fillA (fun i => some (i * s, s)) (zerosA len (ofVL zv.cells.toList)) parts with
        | some cs =>
          match allD cs with
          | some ds => some (.d (.sl .full (chunk s len ds)), H)
          | none => some (.bsl H.length 0 len len, H ++ [.box cs])
        | none => none
      else none
    | _, _ => none
  | _ => none

def mkA (P : Program) (H : List HO) (t : TypeId) (l c : AV) : Option (AV × List HO) :=
  match tk P t, l, c with
  | some (.slice e), .d (.int _ a), .d (.int _ b) =>
    match tsz P e, tby P e, tz P e with
    | some s, some by_, some zv =>
      if s = 1 ∧ zv.cells.size = 1 ∧ a = b ∧ 0 ≤ a ∧ a * (by_ + 1) ≤ 1099511627776 then
        some (.bsl H.length 0 a.toNat a.toNat, H ++ [.box (List.replicate a.toNat (ofV (zv.cells.getD 0 undef)))])
      else none
    | _, _, _ => none
  | _, _, _ => none

def isZ : Operand → Bool
  | .const (.int _ n) => decide (n = 0)
  | _ => false

/-- An empty slice with room. -/
def mkZ (P : Program) (H : List HO) (t : TypeId) (c : AV) : Option (AV × List HO) :=
  match tk P t, c with
  | some (.slice e), .d (.int _ b) =>
    match tsz P e, tby P e, tz P e with
    | some s, some by_, some _ => if 0 ≤ b ∧ b * (by_ + 1) ≤ 1099511627776 then some (.tsl H.length [], H ++ [.tok s 0]) else none
    | _, _, _ => none
  | _, _ => none

def ldB (P : Program) (H : List HO) (t : TypeId) (x : AV) : Option (AV × List HO) :=
  match x with
  | .ptr id off =>
    match H[id]? with
    | some (.box cs) => match partA P t cs off with | some r => some (r, H) | none => none
    | _ => none
  | _ => none

def stB (P : Program) (H : List HO) (t : TypeId) (x y : AV) : Option (AV × List HO) :=
  match x, cellsA y with
  | .ptr id off, some vc => if tsz P t = some vc.length then (match stA H id off vc with | some H' => some (.d (.tup []), H') | none => none) else none
  | _, _ => none

/-- bytes out of a box -/
def cvH (P : Program) (H : List HO) (s d : TypeId) (x : AV) : Option (AV × List HO) :=
  match tk P s, tk P d, x with
  | some (.slice e), some .string, .bsl id off len _ =>
    match tk P e, H[id]? with
    | some (.int .u8), some (.box cs) =>
      if off + len ≤ cs.length then
        match allD ((cs.drop off).take len) with
        | some ds => match bytesOf (ds.map fun d => [d]) with | some l => some (.d (.str l), H) | none => none
        | none => none
      else none
    | _, _ => none
  | some .string, some (.slice e), .d (.str s) =>
    match tk P e with
    | some (.int .u8) => some (.d (.sl .any (s.map byteEl)), H)
    | _ => none
  | _, _, _ => none

/-! Maps keyed by strings -/
def mpFind (k : List UInt8) : List (List UInt8 × DV) → Option DV
  | [] => none
  | (k', d) :: r => if k = k' then some d else mpFind k r
def mpPut (k : List UInt8) (d : DV) : List (List UInt8 × DV) → List (List UInt8 × DV)
  | [] => [(k, d)]
  | (k', d') :: r => if k = k' then (k, d) :: r else (k', d') :: mpPut k d r

def tkm (P : Program) (t : TypeId) : Option (TypeId × TypeId) := match P.underlying t with | some (.map k e) => some (k, e) | _ => none

def luR (ok : Bool) (z : AV) (o : Option DV) : AV :=
  match ok, o with
  | true, some d => .d (.tup [d, .bool true])
  | true, none => mkTup [z, .d (.bool false)]
  | false, some d => .d d
  | false, none => z

def luA (P : Program) (H : List HO) (t : TypeId) (x k : AV) (ok : Bool) : Option (AV × List HO) :=
  match tkm P t, x, k with
  | some (kt, et), .mp id, .d (.str s) =>
    match tk P kt, tz P et, H[id]? with
    | some .string, some z, some (.mp es) => some (luR ok (ofV z) (mpFind s es), H)
    | _, _, _ => none
  | _, _, _ => none

def muA (P : Program) (H : List HO) (t : TypeId) (m k v : AV) : Option (AV × List HO) :=
  match tkm P t, m, k, v with
  | some (kt, _), .mp id, .d (.str s), .d d =>
    match tk P kt, H[id]? with
    | some .string, some (.mp es) => some (.d (.tup []), H.set id (.mp (mpPut s d es)))
    | _, _ => none
  | _, _, _, _ => none

/-- The element type of a type that is laid out as strings.Builder. -/
def bldE (P : Program) (t : TypeId) : Option TypeId :=
  match P.underlying t with
  | some (.struct fs) =>
    match fs.toList with
    | [f0, f1] =>
      match P.underlying f0.type, P.underlying f1.type with
      | some (.pointer t'), some (.slice e) =>
        match P.underlying e with
        | some (.int .u8) => if t' = t ∧ f0.offset = 0 ∧ f1.offset = 1 then some e else none
        | _ => none
      | _, _ => none
    | _ => none
  | _ => none
def alM (t : TypeId) (o : Option TypeId) (cs : List AV) : HO :=
  match o, cs with
  | some e, [.d .nilp, .d (.sl .nil [])] => .bld t e []
  | _, _ => .box cs

def hst (P : Program) (G : Gl) (e : Env) (H : List HO) : Op → Option (AV × List HO)
  | .alloc t => match tz P t with | some z => some (.ptr H.length 0, H ++ [alM t (bldE P t) (ofVL z.cells.toList)]) | none => none
  | .box t x => match cellsA (ev G e x) with | some cs => some (.ptr H.length 0, H ++ [.box cs]) | none => none
  | .load t x => ldB P H t (ev G e x)
  | .store t x y => stB P H t (ev G e x) (ev G e y)
  | .makeSlice t l c => if isZ l = true then mkZ P H t (ev G e c) else mkA P H t (ev G e l) (ev G e c)
  | .buildSlice t len parts => bsA P H t len (parts.toList.map fun p => (p.1, ev G e p.2))
  | .convert s d x => cvH P H s d (ev G e x)
  | .call ⟨.builtin .append, ⟨[s, x]⟩, ⟨[tS, tX]⟩⟩ => apA P H tS tX (ev G e s) (ev G e x)
  | .makeMap t none => some (.mp H.length, H ++ [.mp []])
  | .lookup t x k ok => luA P H t (ev G e x) (ev G e k) ok
  | .mapUpdate t m k v => muA P H t (ev G e m) (ev G e k) (ev G e v)
  | _ => none

/-- What an operation that goes on hands to its slot. -/
def nextV : Next → Option Value
  | .value v => some v
  | .skip => some undef
  | _ => none

section
variable {P : Program} {X : Cxt} {K K' : Mem} {ι ι' : Nat → Pl} {n : Nat} {H : List HO} {w w' : World} {G : Gl}

theorem src_sound {z : Nat} {x : AV} {v : Value} {new : List (List DV)} (h : srcA z x = some new) (hx : RelA K ι n x v) (hz : elOk z new = true) (w : World) : ∃ news, Src P K z new v w news := by
  have main : ∀ {v : Value}, Rel K (.sl .any new) v → ∃ news, Src P K z new v w news := by
    intro v hr
    obtain ⟨olds, h1, h2, h3, base, cap, h4, _, _⟩ := sl_cells (P := P) hr (elOk_sz hz)
    exact ⟨olds, by subst h4; rfl, h1, fun w' hw' => h2 w' hw', h3⟩
  unfold srcA at h
  split at h
  · simp only [Option.some.injEq] at h; subst h
    exact main hx.get.any
  · simp only [Option.some.injEq] at h; subst h
    cases hx with
    | tsl _ _ _ hg _ _ _ => exact main hg
  · rename_i s
    split at h
    · rename_i hz1
      subst hz1
      simp only [Option.some.injEq] at h; subst h
      have hg := hx.get
      cases hg
      refine ⟨s.map fun b => Value.int .u8 b.toNat, by simp [Builtin.lenOf, ByteArray.size], by simp, fun w' _ => by simpa using str_cells s w', fun i j hi hj => ?_⟩
      have hi' : i < s.length := by simpa using hi
      obtain rfl : j = 0 := by omega
      simp [List.getD_eq_getElem?_getD, hi', byteEl]
      exact .int _ _
    · contradiction
  · contradiction

theorem srcKA_srcK {x : AV} {k : TK} (h : srcKA x k = true) : srcK k = true := by
  cases k <;> simp [srcKA] at h <;> rfl

theorem chunk_length (s : Nat) : ∀ (k : Nat) (ds : List DV), (chunk s k ds).length = k
  | 0, _ => rfl
  | k + 1, ds => by simp [chunk, chunk_length s k]

theorem chunk_get (s : Nat) : ∀ (k i : Nat) (ds : List DV), i < k → (chunk s k ds).getD i [] = (ds.drop (i * s)).take s
  | 0, i, _, h => by omega
  | k + 1, 0, ds, _ => by simp [chunk]
  | k + 1, i + 1, ds, h => by
    have := chunk_get s k i (ds.drop s) (by omega)
    rw [List.drop_drop] at this
    simp only [chunk, List.getD_cons_succ]
    rw [this, Nat.add_mul, Nat.one_mul, Nat.add_comm]

theorem zerosA_length (len : Nat) (zs : List AV) : (zerosA len zs).length = len * zs.length := by
  simp [zerosA]

theorem zerosA_get : ∀ (len : Nat) (zs : List AV) (i : Nat), i < len * zs.length → (zerosA len zs).getD i .junk = zs.getD (i % zs.length) .junk
  | 0, zs, i, h => by simp at h
  | len + 1, zs, i, h => by
    have e : zerosA (len + 1) zs = zs ++ zerosA len zs := by simp [zerosA, List.replicate_succ]
    rw [e, List.getD_eq_getElem?_getD, List.getElem?_append]
    split
    · rename_i hi
      rw [Nat.mod_eq_of_lt hi, List.getD_eq_getElem?_getD]
    · rename_i hi
      have := zerosA_get len zs (i - zs.length) (by rw [Nat.add_mul, Nat.one_mul] at h; omega)
      rw [List.getD_eq_getElem?_getD] at this
      rw [this]
      congr 1
      exact (Nat.mod_eq_sub_mod (by omega)).symm

theorem Rel.cell_of {cs : List DV} {vs : Array Value} (h : ∀ i, i < cs.length → RelA K ι n ((cs.map AV.d).getD i .junk) (vs.getD i undef)) (i : Nat) (hi : i < cs.length) : Rel K (cs.getD i .nilp) (vs.getD i undef) := by
  have := h i hi
  rw [getD_map' AV.d cs i .nilp _ hi] at this
  exact this.get

theorem Left.of_eq {r : AV} {v : Value} (h : SR X K ι H w) (hr : RelA K ι H.length r v) : Left X K ι H.length H r v w := ⟨K, ι, h, hr, Mem.le_refl K, Pls.le_refl _ _, Nat.le_refl _⟩

theorem Left.newBox (h : SR X K ι H w) (vs : Array Value) (ty : TypeId) (cs : List AV) (hl : vs.size = cs.length) (hr : ∀ j, j < cs.length → RelA K ι H.length (cs.getD j .junk) (vs.getD j undef)) {r : AV} {v : Value}
    (hv : RelA K (place ι H.length ⟨w.heap.size, undef, 0, 0⟩) (H.length + 1) r v) : Left X K ι H.length (H ++ [.box cs]) r v (w.alloc (.cells vs ty)) :=
  ⟨K, _, h.newBox vs ty cs hl hr, by simpa using hv, Mem.le_refl K, place_le _ _ _, by simp⟩

theorem apA_sound {tS tX ty : TypeId} {s x r : AV} {vs vx : Value} {H' : List HO} (h : apA P H tS tX s x = some (r, H')) (hsr : SR X K ι H w) (hs : RelA K ι H.length s vs) (hx : RelA K ι H.length x vx) :
    ∃ v w', (Builtin.append_ #[tS, tX] ty #[vs, vx]).run P w = .ok v w' ∧ Left X K ι H.length H' r v w' := by
  unfold apA at h
  split at h
  · rename_i e kX hS hX
    split at h
    · rename_i z by_ zv hz hb hzv
      split at h
      · rename_i hc
        obtain ⟨hzz, hkx⟩ := hc
        split at h
        · rename_i new hnew
          split at h
          · rename_i hel
            obtain ⟨news, hsrc⟩ := src_sound (P := P) hnew hx hel w
            unfold apB at h
            split at h
            · rename_i st es
              split at h
              · rename_i hcc
                obtain ⟨hst, hes, hfit⟩ := hcc
                simp only [Option.some.injEq, Prod.mk.injEq] at h
                obtain ⟨rfl, rfl⟩ := h
                obtain ⟨p, g1, g2, g3⟩ := hsr.ghostTok z hst hs.get
                have htok : (H ++ [HO.tok z es.length])[H.length]? = some (.tok z es.length) := by simp
                obtain ⟨v', w', hrun, K', ι', q1, q2, q3, q4, q5⟩ := g1.append (P := P) hS hz hb hzv hX (srcKA_srcK hkx) ty htok (by simpa using g2) hes hel hsrc hzz hfit
                refine ⟨v', w', hrun, K', ι', ?_, ?_, q3, Pls.le_trans (by simp) g3 q4, by simp⟩
                · simpa using q1
                · simpa using q2
              · contradiction
            · rename_i tok es
              split at h
              · rename_i z' m htok
                split at h
                · rename_i hcc
                  obtain ⟨rfl, rfl, hes, hfit⟩ := hcc
                  simp only [Option.some.injEq, Prod.mk.injEq] at h
                  obtain ⟨rfl, rfl⟩ := h
                  exact hsr.append (P := P) hS hz hb hzv hX (srcKA_srcK hkx) ty htok hs hes hel hsrc hzz hfit
                · contradiction
              · contradiction
            · contradiction
          · contradiction
        · contradiction
      · contradiction
    · contradiction
  · contradiction

theorem bsA_sound {t : TypeId} {len : Nat} {parts : List (Nat × AV)} {vparts : Array (Nat × Value)} {r : AV} {H' : List HO} (h : bsA P H t len parts = some (r, H')) (hsr : SR X K ι H w) (hl : vparts.size = parts.length)
    (hp : ∀ (i : Nat) (x : Nat × AV) (y : Nat × Value), parts[i]? = some x → vparts.toList[i]? = some y → x.1 = y.1 ∧ RelA K ι H.length x.2 y.2) :
    ∃ v w', (Instr.buildSlice t len vparts).run P w = .ok v w' ∧ Left X K ι H.length H' r v w' := by
  unfold bsA at h
  split at h
  · rename_i e hk
    split at h
    · rename_i s zv hs hz
      split at h
      · rename_i hc
        obtain ⟨hc1, hc2⟩ := hc
        split at h
        · rename_i cs hf
          have hzl : (ofVL zv.cells.toList).length = s := by rw [ofVL_length]; simpa using hc2
          obtain ⟨vcs, e1, e2, e3⟩ := fill_sound (K := K) (ι := ι) (n := H.length) _ parts vparts.toList _ cs ((Array.range (len * s)).map fun i => zv.cells.getD (i % s) undef) hf (by simpa using hl) hp
            (by rw [zerosA_length, hzl]; simp) (fun i hi => by
              rw [zerosA_length, hzl] at hi
              have hsp : 0 < s := by
                rcases Nat.eq_zero_or_pos s with rfl | hp
                · simp at hi
                · exact hp
              rw [zerosA_get _ _ _ (by rw [hzl]; exact hi), hzl]
              have hm : i % s < s := Nat.mod_lt _ hsp
              have : ((Array.range (len * s)).map fun i => zv.cells.getD (i % s) undef).getD i undef = zv.cells.getD (i % s) undef := by
                rw [Array.getD_eq_getD_getElem?, Array.getElem?_map]
                have : (Array.range (len * s))[i]? = some i := by simp [hi]
                rw [this]; rfl
              rw [this, ← getD_toList]
              exact ofVL_rel K ι H.length _ _ (by simpa [hc2] using hm))
          have hcsl : cs.length = len * s := by
            have : ∀ (parts : List (Nat × AV)) (c c' : List AV), fillA (fun i => some (i * s, s)) c parts = some c' → c'.length = c.length := by
              intro parts
              induction parts with
              | nil => intro c c' h; simp [fillA] at h; rw [h]
              | cons p rest ih =>
                intro c c' h
                obtain ⟨i, x⟩ := p
                simp only [fillA] at h
                split at h
                · rename_i off size vc hpl hcv
                  split at h
                  · rename_i hcond
                    rw [ih _ _ h]
                    simp only [Option.some.injEq, Prod.mk.injEq] at hpl
                    simp; omega
                  · contradiction
                · contradiction
            rw [this _ _ _ hf, zerosA_length, hzl]
          have hrun : (Instr.buildSlice t len vparts).run P w = .ok (.slice (some ⟨w.heap.size, 0, none⟩) len len) (w.alloc (.cells vcs e)) := by
            have hcells : (Array.range (len * s)).map (fun i => zv.cells[i % zv.cells.size]!) = (Array.range (len * s)).map fun i => zv.cells.getD (i % s) undef := by
              apply Array.ext
              · simp
              · intro i h1 h2
                simp only [Array.getElem_map, Array.getElem_range]
                have hi : i < len * s := by simpa using h1
                have hsp : 0 < s := by
                  rcases Nat.eq_zero_or_pos s with rfl | hp
                  · simp at hi
                  · exact hp
                have hm : i % s < zv.cells.size := by rw [hc2]; exact Nat.mod_lt _ hsp
                rw [hc2]
                simp [Array.getD, hm, getElem!_pos]
            have hbig : ¬ (len * s > 2 ^ 24) := by omega
            by_cases h0 : len * s = 0
            · have hz0 : (Array.range (len * s)).map (fun i => (#[] : Array Value)[i % (#[] : Array Value).size]!) = (Array.range (len * s)).map fun i => zv.cells.getD (i % s) undef := by
                rw [h0]; simp
              simp only [Instr.buildSlice, Sem.run_bind, run_underlying (tk_slice hk), Result.andThen_ok, run_sizeOf' hs, Sem.run_pure, h0, if_true]
              rw [h0] at hz0 e1
              rw [if_neg (by omega)]
              simp only [Sem.run_bind, Sem.run_pure, Result.andThen_ok]
              rw [hz0, e1]
              rfl
            · simp only [Instr.buildSlice, Sem.run_bind, run_underlying (tk_slice hk), Result.andThen_ok, run_sizeOf' hs, Sem.run_pure]
              rw [if_neg hbig, if_neg h0]
              simp only [Sem.run_bind, Sem.run_pure, Result.andThen_ok, run_zero' hz]
              rw [hcells, e1]
              rfl
          split at h
          · rename_i ds hds
            simp only [Option.some.injEq, Prod.mk.injEq] at h
            obtain ⟨rfl, rfl⟩ := h
            obtain ⟨d1, d2⟩ := allD_get hds
            have hcsz : vcs.size = len * s := by rw [e2, hcsl]
            have hx := Ext.row (K := K) (w := w) hsr.agree vcs e (len * s) (by omega)
            have hchl := chunk_length s len ds
            refine ⟨_, _, hrun, _, ι, hsr.ext hx, .d _ _ ?_, hx.le, Pls.le_refl _ _, Nat.le_refl _⟩
            have hrow := rel_row (K := kAdd K w.heap.size 0 (len * s) vcs) (es := chunk s len ds) (sz := s) (b := w.heap.size) (o := 0) (cap := len) (vs := vcs) (st := .full) (by simp) (fun _ => hchl.symm) (by rw [hchl]; exact Nat.le_refl _)
              (by
                simp only [szOk, List.all_eq_true]
                intro c hcm
                obtain ⟨i, hi, rfl⟩ := List.getElem_of_mem hcm
                have hi' : i < len := by rwa [hchl] at hi
                have hg := chunk_get s len i ds hi'
                rw [List.getD_eq_getElem?_getD, List.getElem?_eq_getElem hi] at hg
                simp only [Option.getD_some] at hg
                rw [hg]
                have : (i + 1) * s ≤ len * s := Nat.mul_le_mul_right _ hi'
                rw [Nat.add_mul] at this
                simp only [List.length_take, List.length_drop, beq_iff_eq]
                omega)
              (fun q _ hq => by
                unfold kAdd
                rw [hchl] at hq
                rw [if_pos ⟨rfl, rfl, Nat.zero_le _, by simpa using hq⟩])
              (fun i j hi hj => by
                rw [hchl] at hi
                have hle : (i + 1) * s ≤ len * s := Nat.mul_le_mul_right _ hi
                rw [Nat.add_mul] at hle
                rw [chunk_get s len i ds hi, getD_take_drop _ _ _ _ _ hj, Nat.zero_add]
                have := e3 (i * s + j) (by omega)
                rw [d2 _ (by omega)] at this
                exact this.get.mono hx.le)
            rwa [hchl] at hrow
          · simp only [Option.some.injEq, Prod.mk.injEq] at h
            obtain ⟨rfl, rfl⟩ := h
            refine ⟨_, _, hrun, Left.newBox hsr vcs e cs e2 e3 ?_⟩
            have := RelA.bsl (K := K) (ι := place ι H.length ⟨w.heap.size, undef, 0, 0⟩) (n := H.length + 1) H.length 0 len len (by omega)
            rwa [place_same] at this
        · contradiction
      · contradiction
    · contradiction
  · contradiction

theorem mkA_sound {t : TypeId} {l c r : AV} {vl vc : Value} {H' : List HO} (h : mkA P H t l c = some (r, H')) (hsr : SR X K ι H w) (hl : RelA K ι H.length l vl) (hc : RelA K ι H.length c vc) :
    ∃ v w', (Instr.makeSlice t vl vc).run P w = .ok v w' ∧ Left X K ι H.length H' r v w' := by
  unfold mkA at h
  split at h
  · rename_i e k1 a k2 b hk
    have g1 := hl.get
    have g2 := hc.get
    cases g1
    cases g2
    split at h
    · rename_i s by_ zv hs hb hz
      split at h
      · rename_i hcc
        obtain ⟨rfl, hzs, rfl, h0, hfit⟩ := hcc
        simp only [Option.some.injEq, Prod.mk.injEq] at h
        obtain ⟨rfl, rfl⟩ := h
        obtain ⟨m, rfl⟩ := Int.eq_ofNat_of_zero_le h0
        have hfit' : m * (by_ + 1) ≤ 1099511627776 := by
          have e : ((m * (by_ + 1) : Nat) : Int) = (m : Int) * ((by_ : Int) + 1) := by rw [Int.natCast_mul, Int.natCast_add]; rfl
          rw [← e] at hfit
          generalize m * (by_ + 1) = q at hfit
          omega
        have hm : m ≤ 1099511627776 := Nat.le_trans (Nat.le_mul_of_pos_right _ (by omega)) hfit'
        have hby : m * by_ ≤ 1099511627776 := Nat.le_trans (Nat.mul_le_mul_left _ (by omega)) hfit'
        have hw : IntKind.i64.wrap (m : Int) = m := wrap_i64 (by omega) (by omega)
        obtain ⟨i, hi, hib⟩ := run_bytesOf' hb w
        have hbi : ¬ ((i.bytes : Int) * (m : Int) > 2 ^ 48) := by
          rw [hib, Int.mul_comm, ← Int.natCast_mul]
          generalize m * by_ = q at hby
          omega
        have hcell : zv.cells = #[zv.cells.getD 0 undef] := by
          apply Array.ext
          · simp [hzs]
          · intro i h1 h2
            have : i = 0 := by omega
            subst this
            simp [Array.getD, hzs]
        have hrow : (Array.range m).map (fun q => zv.cells[q % zv.cells.size]!) = Array.replicate m (zv.cells.getD 0 undef) := by
          apply Array.ext
          · simp
          · intro q h1 h2
            simp only [Array.getElem_map, Array.getElem_range, Array.getElem_replicate, hzs, Nat.mod_one]
            simp [Array.getD, hzs]
        have hrun : (Instr.makeSlice t (.int k1 m) (.int k2 m)).run P w = .ok (.slice (some ⟨w.heap.size, 0, none⟩) m m) (w.alloc (.cells (Array.replicate m (zv.cells.getD 0 undef)) e)) := by
          have e1 : ¬ ((m : Int) < 0) := by omega
          have e2 : ¬ ((m : Int) > (m : Int)) := by omega
          have e3 : (Int.toNat (m : Int)) = m := by simp
          have e4 : (decide ((m : Int) < 0) || decide ((i.bytes : Int) * (m : Int) > 2 ^ 48)) = false := by simp only [decide_eq_false e1, decide_eq_false hbi]; rfl
          simp only [Instr.makeSlice, Sem.run_bind, run_underlying (tk_slice hk), Result.andThen_ok, asInt, asIntOf, Sem.run_pure, hi, hw, e3]
          rw [if_neg (by rw [e4]; simp [e1, e2])]
          simp only [Sem.run_bind, run_askRoom, Result.andThen_ok, run_sizeOf' hs, Nat.mul_one]
          by_cases hm0 : m = 0
          · subst hm0
            have hr0 : Array.range 0 = #[] := rfl
            simp [newRow, hr0]
          · rw [if_neg hm0]
            simp only [Sem.run_bind, run_zero' hz, Result.andThen_ok, Sem.run_pure, newRow]
            rw [hrow]
            rfl
        refine ⟨_, _, hrun, Left.newBox hsr _ e _ (by simp) (fun j hj => ?_) ?_⟩
        · have hj' : j < m := by simpa using hj
          have e1 : (List.replicate (Int.toNat (m : Int)) (ofV (zv.cells.getD 0 undef))).getD j .junk = ofV (zv.cells.getD 0 undef) := by
            simp [List.getD_eq_getElem?_getD, List.getElem?_replicate, hj']
          have e2 : (Array.replicate m (zv.cells.getD 0 undef)).getD j undef = zv.cells.getD 0 undef := by
            simp [Array.getD, hj']
          rw [e1, e2]
          exact ofV_rel K ι H.length _
        · have := RelA.bsl (K := K) (ι := place ι H.length ⟨w.heap.size, undef, 0, 0⟩) (n := H.length + 1) H.length 0 m m (by omega)
          rw [place_same] at this
          simpa using this
      · contradiction
    · contradiction
  · contradiction

theorem mkZ_sound {t : TypeId} {c r : AV} {k0 : IntKind} {vc : Value} {H' : List HO} (h : mkZ P H t c = some (r, H')) (hsr : SR X K ι H w) (hc : RelA K ι H.length c vc) :
    ∃ v w', (Instr.makeSlice t (.int k0 0) vc).run P w = .ok v w' ∧ Left X K ι H.length H' r v w' := by
  unfold mkZ at h
  split at h
  · rename_i e k2 b hk
    have g2 := hc.get
    cases g2
    split at h
    · rename_i s by_ zv hs hb hz
      split at h
      · rename_i hcc
        obtain ⟨h0, hfit⟩ := hcc
        simp only [Option.some.injEq, Prod.mk.injEq] at h
        obtain ⟨rfl, rfl⟩ := h
        obtain ⟨m, rfl⟩ := Int.eq_ofNat_of_zero_le h0
        have hfit' : m * (by_ + 1) ≤ 1099511627776 := by
          have e : ((m * (by_ + 1) : Nat) : Int) = (m : Int) * ((by_ : Int) + 1) := by rw [Int.natCast_mul, Int.natCast_add]; rfl
          rw [← e] at hfit
          generalize m * (by_ + 1) = q at hfit
          omega
        have hm : m ≤ 1099511627776 := Nat.le_trans (Nat.le_mul_of_pos_right _ (by omega)) hfit'
        have hby : m * by_ ≤ 1099511627776 := Nat.le_trans (Nat.mul_le_mul_left _ (by omega)) hfit'
        have hw : IntKind.i64.wrap (m : Int) = m := wrap_i64 (by omega) (by omega)
        have hw0 : IntKind.i64.wrap 0 = 0 := wrap_i64 (by omega) (by omega)
        obtain ⟨i, hi, hib⟩ := run_bytesOf' hb w
        have hbi : ¬ ((i.bytes : Int) * (m : Int) > 2 ^ 48) := by
          rw [hib, Int.mul_comm, ← Int.natCast_mul]
          generalize m * by_ = q at hby
          omega
        have hrun : ∃ vs : Array Value, vs.size = m * s ∧ (Instr.makeSlice t (.int k0 0) (.int k2 m)).run P w = .ok (.slice (some ⟨w.heap.size, 0, none⟩) 0 m) (w.alloc (.cells vs e)) := by
          have e1 : ¬ ((m : Int) < 0) := by omega
          have e2 : ¬ ((0 : Int) > (m : Int)) := by omega
          have e3 : (Int.toNat (m : Int)) = m := by simp
          have e4 : (decide ((m : Int) < 0) || decide ((i.bytes : Int) * (m : Int) > 2 ^ 48)) = false := by simp only [decide_eq_false e1, decide_eq_false hbi]; rfl
          simp only [Instr.makeSlice, Sem.run_bind, run_underlying (tk_slice hk), Result.andThen_ok, asInt, asIntOf, Sem.run_pure, hi, hw, hw0, e3]
          rw [if_neg (by rw [e4]; simp [e2])]
          simp only [Sem.run_bind, run_askRoom, Result.andThen_ok, run_sizeOf' hs]
          by_cases hm0 : m * s = 0
          · rw [if_pos hm0]
            exact ⟨(Array.range (m * s)).map (fun q => (#[] : Array Value)[q % (#[] : Array Value).size]!), by simp, by simp [newRow]⟩
          · rw [if_neg hm0]
            simp only [Sem.run_bind, run_zero' hz, Result.andThen_ok, Sem.run_pure, newRow]
            exact ⟨(Array.range (m * s)).map (fun q => zv.cells[q % zv.cells.size]!), by simp, rfl⟩
        obtain ⟨vs, hvs, hrun⟩ := hrun
        have hal : SR X K ι H (w.alloc (.cells vs e)) := hsr.ext ⟨Mem.le_refl K, fun _ _ => rfl, agree_alloc hsr.agree _, (Below.refl _ _).alloc (Nat.le_refl _) _⟩
        refine ⟨_, _, hrun, K, _, hsr.push hal ⟨0, .slice (some ⟨w.heap.size, 0, none⟩) 0 m, 0, w.heap.size⟩ (.tok s 0) ⟨rfl, .inr ⟨⟨w.heap.size, 0, none⟩, m, rfl, Nat.zero_le _, fun _ => ⟨rfl, rfl, hsr.size, vs, e, (0, 0), heap_alloc_new w _, by rw [hvs]; simp, fun o _ => ⟨none_of_ge hsr.agree (Nat.le_refl _), World.frozen?_alloc_new w vs e o⟩⟩⟩⟩ ?_, ?_, Mem.le_refl K, place_le _ _ _, by simp⟩
        · rintro b ⟨rfl, _⟩ i h' hi ho
          have := (owns_lt (hsr.obj i h' hi) ho).1
          simp at this
        · have hlen : (H ++ [HO.tok s 0]).length = H.length + 1 := by simp
          rw [hlen]
          refine .tsl _ _ _ (.sl .any [] ⟨w.heap.size, 0, none⟩ m 0 (fun _ _ => undef) (by simp) (by simp) (Nat.zero_le _) (fun i hi => by simp at hi) (fun i j hi => by simp at hi) (fun i j hi => by simp at hi)) (by omega) (by rw [place_same]; exact Nat.le_refl _) (by rw [place_same]; exact fun _ => rfl)
      · contradiction
    · contradiction
  · contradiction

theorem ldB_sound {t : TypeId} {x r : AV} {vx : Value} {H' : List HO} (h : ldB P H t x = some (r, H')) (hsr : SR X K ι H w) (hx : RelA K ι H.length x vx) :
    ∃ v w', (Instr.loadAt t vx).run P w = .ok v w' ∧ Left X K ι H.length H' r v w' := by
  unfold ldB at h
  split at h
  · rename_i id off
    split at h
    · rename_i cs hid
      split at h
      · rename_i y hy
        simp only [Option.some.injEq, Prod.mk.injEq] at h
        obtain ⟨rfl, rfl⟩ := h
        obtain ⟨h1, vs, ty, fz, h2, h3, h4, h5, h6⟩ := hsr.obj id _ hid
        cases hx with
        | ptr _ _ hi =>
          obtain ⟨u, hu, hr⟩ := load_sound (P := P) (K := K) (ι := ι) (n := H.length) (a := ⟨(ι id).block, 0, none⟩) (val := fun j => vs.getD j undef) (w := w) hy (fun j hj => by
            rw [Addr.add_mk, Nat.zero_add]
            rw [cell_of_row w _ _ vs ty fz h2]
            simp [Array.getD, h3, hj]) h5
          refine ⟨u, w, ?_, Left.of_eq hsr hr⟩
          rw [Addr.add_mk, Nat.zero_add] at hu
          simpa [Instr.loadAt, Instr.sureAddr] using hu
      · contradiction
    · contradiction
  · contradiction

theorem stB_sound {t : TypeId} {x y r : AV} {vx vy : Value} {H' : List HO} (h : stB P H t x y = some (r, H')) (hsr : SR X K ι H w) (hx : RelA K ι H.length x vx) (hy : RelA K ι H.length y vy) :
    ∃ w', (Instr.storeAt t vx vy).run P w = .ok () w' ∧ Left X K ι H.length H' r undef w' := by
  unfold stB at h
  split at h
  · rename_i id off vc hvc
    split at h
    · rename_i hsz
      split at h
      · rename_i H'' hst
        simp only [Option.some.injEq, Prod.mk.injEq] at h
        obtain ⟨rfl, rfl⟩ := h
        obtain ⟨q1, q2⟩ := cellsA_rel hy hvc
        cases hx with
        | ptr _ _ hi =>
          obtain ⟨w', ι', hrun, g1, g2, g3⟩ := stA_sound (P := P) (vs := vy.cells.toList) hst hsr (by simpa using q1) (fun i hi => by rw [getD_toList]; exact q2 i hi)
          refine ⟨w', ?_, K, ι', g1, .d _ _ (.tup _ _ rfl (fun i hi => by simp at hi)), Mem.le_refl K, g2, by omega⟩
          simp only [Instr.storeAt, Instr.sureAddr, Sem.run_bind, Sem.run_pure, Result.andThen_ok, storeVar, run_sizeOf' hsz, q1, ne_eq, not_true_eq_false, if_false]
          exact hrun
      · contradiction
    · contradiction
  · contradiction

theorem bytesOf_len : ∀ {es : List (List DV)} {l : List UInt8}, bytesOf es = some l → es.length = l.length
  | [], l, h => by simp [bytesOf] at h; subst h; rfl
  | c :: r, l, h => by
    obtain ⟨m, l', rfl, hl2, rfl⟩ := bytesOf_cons h
    simp [bytesOf_len hl2]

theorem cvH_sound {s d : TypeId} {x r : AV} {vx : Value} {H' : List HO} (h : cvH P H s d x = some (r, H')) (hsr : SR X K ι H w) (hx : RelA K ι H.length x vx) :
    ∃ v w', (convert s d vx).run P w = .ok v w' ∧ Left X K ι H.length H' r v w' := by
  unfold cvH at h
  split at h
  · rename_i e id off len cap hs hd
    split at h
    · rename_i cs hk hid
      split at h
      · rename_i hle
        split at h
        · rename_i ds hds
          split at h
          · rename_i l hl
            simp only [Option.some.injEq, Prod.mk.injEq] at h
            obtain ⟨rfl, rfl⟩ := h
            obtain ⟨h1, vs, ty, fz, h2, h3, h4, h5, h6⟩ := hsr.obj id _ hid
            obtain ⟨d1, d2⟩ := allD_get hds
            have hlen : ds.length = len := by rw [d1]; simp; omega
            cases hx with
            | bsl _ _ _ _ hi =>
              -- the cells, as elements of a slice that is known
              have hrel : Rel (kAdd K (ι id).block off (off + len) vs) (.sl .any (ds.map fun d => [d])) (.slice (some ⟨(ι id).block, off, none⟩) len (max cap len)) := by
                have hr := rel_row (K := kAdd K (ι id).block off (off + len) vs) (es := ds.map fun d => [d]) (sz := 1) (b := (ι id).block) (o := off) (cap := max cap len) (vs := vs) (st := .any) (by simp) (by simp) (by simp; omega)
                  (szOk_map _ _ (fun _ => rfl)) (fun q hq1 hq2 => by
                    unfold kAdd
                    simp only [List.length_map, Nat.mul_one, hlen] at hq2
                    rw [if_pos ⟨rfl, rfl, hq1, hq2⟩]) (fun i j hi hj => by
                    have hi' : i < len := by simpa [hlen] using hi
                    obtain rfl : j = 0 := by omega
                    rw [getD_map' (fun d => [d]) ds i .nilp [] (by omega)]
                    simp only [List.getD_cons_zero, Nat.mul_one, Nat.add_zero]
                    have := h5 (off + i) (by omega)
                    have e1 := d2 i (by simp; omega)
                    rw [getD_take_drop _ _ _ _ _ hi'] at e1
                    rw [e1] at this
                    have hle' : Mem.le K (kAdd K (ι id).block off (off + len) vs) := fun a u hau => by
                      unfold kAdd
                      rw [if_neg]; · exact hau
                      rintro ⟨c1, c2, c3, c4⟩
                      obtain ⟨b', o', s'⟩ := a
                      simp only at c1 c2
                      subst c1; subst c2
                      rw [h6] at hau; contradiction
                    exact this.get.mono hle')
                simpa [hlen] using hr
              have hag : Agree (kAdd K (ι id).block off (off + len) vs) w := fun a u hau => by
                unfold kAdd at hau
                split at hau
                · rename_i hcnd
                  obtain ⟨c1, c2, c3, c4⟩ := hcnd
                  obtain ⟨b', o', s'⟩ := a
                  simp only at c1 c2 c3 c4
                  subst c1; subst c2
                  simp only [Option.some.injEq] at hau; subst hau
                  rw [cell_of_row w _ _ vs ty fz h2]
                  simp [Array.getD, show o' < vs.size from by omega]
                · exact hsr.agree a u hau
              have hrun := bytes_run (P := P) (tk_slice hs) (tk_string hd) (tk_int hk) hrel hl hag
              refine ⟨_, w, ?_, Left.of_eq hsr (.d _ _ (.str l))⟩
              have : (convert s d (.slice (some ⟨(ι id).block, off, none⟩) len cap)).run P w = (convert s d (.slice (some ⟨(ι id).block, off, none⟩) len (max cap len))).run P w := by
                simp only [convert, Sem.run_bind, run_underlying (tk_slice hs), run_underlying (tk_string hd), run_underlying (tk_int hk), Result.andThen_ok, Conv.bytesToString]
              rw [this]; exact hrun
          · contradiction
        · contradiction
      · contradiction
    · contradiction
  · rename_i e s' hs hd
    split at h
    · rename_i he
      simp only [Option.some.injEq, Prod.mk.injEq] at h
      obtain ⟨rfl, rfl⟩ := h
      have hg := hx.get
      cases hg
      have hrun := run_bytes_of_string (P := P) w s d e ⟨s'.toArray⟩ (tk_string hs) (tk_slice hd) (tk_int he)
      have hcap := grownCap_ge w s'.toArray.size 0 e
      have hsz : ByteArray.size ⟨s'.toArray⟩ = s'.length := by simp [ByteArray.size]
      rw [hsz] at hrun
      rw [List.size_toArray] at hcap
      generalize grownCap w s'.length 0 e = cap at hrun hcap
      have hrs : (bytesRow ⟨s'.toArray⟩ cap).size = cap := by simp [bytesRow, ByteArray.size]; omega
      have hx := Ext.rowF (K := K) (w := w) hsr.agree (bytesRow ⟨s'.toArray⟩ cap) e ((bytesRow ⟨s'.toArray⟩ cap).size, (bytesRow ⟨s'.toArray⟩ cap).size + 1) s'.length (by omega)
      refine ⟨_, _, hrun, _, ι, hsr.ext hx, .d _ _ ?_, hx.le, Pls.le_refl _ _, Nat.le_refl _⟩
      have hrow := rel_row (K := kAdd K w.heap.size 0 s'.length (bytesRow ⟨s'.toArray⟩ cap)) (es := s'.map byteEl) (sz := 1) (b := w.heap.size) (o := 0) (cap := cap) (vs := bytesRow ⟨s'.toArray⟩ cap) (st := .any) (by simp) (by simp) (by simpa using hcap)
        (szOk_map _ _ (fun _ => rfl)) (fun q _ hq => by
          unfold kAdd
          rw [if_pos ⟨rfl, rfl, Nat.zero_le _, by simpa using hq⟩]) (fun i j hi hj => by
          have hi' : i < s'.length := by simpa using hi
          obtain rfl : j = 0 := by omega
          rw [getD_map' byteEl s' i 0 [] hi']
          have hb := bytesRow_at ⟨s'.toArray⟩ cap i (by simpa using hi')
          have e1 : (bytesRow ⟨s'.toArray⟩ cap).getD (0 + (i * 1 + 0)) undef = .int .u8 (s'[i].toNat : Int) := by
            rw [show 0 + (i * 1 + 0) = i by omega, Array.getD_eq_getD_getElem?, hb]
            simp
          rw [e1]
          have e2 : s'.getD i 0 = s'[i] := by simp [List.getD_eq_getElem?_getD, hi']
          rw [e2]
          exact .int _ _)
      simpa using hrow
    · contradiction
  · contradiction

theorem tkm_map {t kt et : TypeId} (h : tkm P t = some (kt, et)) : P.underlying t = some (.map kt et) := by
  unfold tkm at h
  split at h
  · rename_i k e hk
    simp only [Option.some.injEq, Prod.mk.injEq] at h
    obtain ⟨rfl, rfl⟩ := h
    exact hk
  · contradiction

def putMap (w : World) (b : Nat) (o : Obj) : World := { w with heap := w.heap.setIfInBounds b o }
theorem putMap_same {b : Nat} {o o' : Obj} (h : w.heap[b]? = some o') : (putMap w b o).heap[b]? = some o := by
  have := heap_lt h
  simp [putMap, this]
theorem putMap_other {b c : Nat} {o : Obj} (h : c ≠ b) : (putMap w b o).heap[c]? = w.heap[c]? := by
  simp [putMap, Array.getElem?_setIfInBounds, Ne.symm h]

theorem objOk.putMap {B b : Nat} {pl : Pl} {q : HO} {o' : Obj} (ho : objOk K ι n w B pl q) (hb : ¬ owns q pl b) : objOk K ι n (putMap w b o') B pl q := by
  cases q with
  | box ds =>
    obtain ⟨h1, vs, ty, fz, h2, h3, h4, h5, h6⟩ := ho
    have hne : pl.block ≠ b := fun e => hb e.symm
    have he : (Sx.putMap w b o').heap[pl.block]? = w.heap[pl.block]? := putMap_other hne
    exact ⟨h1, vs, ty, fz, by rw [he]; exact h2, h3, fun o => by rw [frozen_congr he]; exact h4 o, h5, h6⟩
  | tok sz m =>
    obtain ⟨h1, h2⟩ := ho
    refine ⟨h1, h2.imp id ?_⟩
    rintro ⟨a, cap, e, hle, hs⟩
    refine ⟨a, cap, e, hle, fun hlt => ?_⟩
    have hne : pl.tb ≠ b := fun e' => hb ⟨e'.symm, a, cap, e, hlt⟩
    have he : (Sx.putMap w b o').heap[pl.tb]? = w.heap[pl.tb]? := putMap_other hne
    obtain ⟨g1, g2, g3, vs, ty, fz, g4, g5, g6⟩ := hs hlt
    exact ⟨g1, g2, g3, vs, ty, fz, by rw [he]; exact g4, g5, fun o ho => by rw [frozen_congr he]; exact g6 o ho⟩
  | dead => trivial
  | mp es =>
    obtain ⟨h1, ents, clock, h2, h3⟩ := ho
    have hne : pl.block ≠ b := fun e => hb e.symm
    exact ⟨h1, ents, clock, by rw [putMap_other hne]; exact h2, h3⟩
  | loop st vals ps assign body =>
    obtain ⟨h1, fn, tmps, D, h2, h3, h4⟩ := ho
    have hne : pl.block ≠ b := fun e => hb e.symm
    exact ⟨h1, fn, tmps, D, by rw [putMap_other hne]; exact h2, h3, h4⟩
  | dfrAt D =>
    obtain ⟨h1, h2, h3⟩ := ho
    have hne : pl.block ≠ b := fun e => hb e.symm
    exact ⟨h1, h2, by rw [putMap_other (by rw [← h2]; exact hne)]; exact h3⟩
  | bld T e l => exact bdOk.frame ho (putMap_other (fun e => hb (.inl e.symm))) (fun hl => putMap_other (fun e => hb (.inr ⟨hl, e.symm⟩))) (fun _ => rfl) (fun _ _ => rfl)

theorem str_key (a b : List UInt8) : (Value.string ⟨a.toArray⟩ = Value.string ⟨b.toArray⟩) ↔ a = b := by
  constructor
  · intro h
    simpa using h
  · rintro rfl; rfl

theorem find_rel (k : List UInt8) : ∀ {es : List (List UInt8 × DV)} {l : List MapEntry} (i : Nat), MpRel K es l →
    (mpFind k es = none ∧ Instr.findNow .string (.string ⟨k.toArray⟩) l i = some none ∧ ∀ d v b, Rel K d v → MpRel K (mpPut k d es) (l ++ [⟨.string ⟨k.toArray⟩, v, b⟩])) ∨
    ∃ d j e, mpFind k es = some d ∧ Instr.findNow .string (.string ⟨k.toArray⟩) l i = some (some (i + j, e.val)) ∧ l[j]? = some e ∧ e.key = .string ⟨k.toArray⟩ ∧ Rel K d e.val ∧
      ∀ d v, Rel K d v → MpRel K (mpPut k d es) (l.modify j fun e => { e with key := .string ⟨k.toArray⟩, val := v })
  | [], [], i, _ => .inl ⟨rfl, rfl, fun d v b h => ⟨rfl, h, trivial⟩⟩
  | (k', d') :: r, e :: es, i, ⟨h1, h2, h3⟩ => by
    obtain ⟨q, hq, hiff⟩ := MapKept.sameNow_of_keys (d := .string) (a := .string ⟨k.toArray⟩) (b := e.key) trivial (by rw [h1]; trivial)
    rw [h1, str_key] at hiff
    by_cases hk : k = k'
    · have := hiff.2 hk
      subst this
      subst hk
      refine .inr ⟨d', 0, e, by simp [mpFind], by simp [Instr.findNow, hq], rfl, h1, h2, fun d v hr => ?_⟩
      simp only [mpPut, if_true, List.modify_cons, if_true]
      exact ⟨rfl, hr, h3⟩
    · have : q = false := by cases q with | true => exact absurd (hiff.1 rfl) hk | false => rfl
      subst this
      rcases find_rel k (i + 1) h3 with ⟨g1, g2, g3⟩ | ⟨d, j, e', g1, g2, g3, g4, g5, g6⟩
      · exact .inl ⟨by simp [mpFind, hk, g1], by simp [Instr.findNow, hq, g2], fun d v b hr => by simp only [mpPut, if_neg hk, List.cons_append]; exact ⟨h1, h2, g3 d v b hr⟩⟩
      · refine .inr ⟨d, j + 1, e', by simp [mpFind, hk, g1], by simp [Instr.findNow, hq, g2]; omega, by simpa using g3, g4, g5, fun d v hr => ?_⟩
        simp only [mpPut, if_neg hk]
        have : (e :: es).modify (j + 1) (fun e => { e with key := .string ⟨k.toArray⟩, val := v }) = e :: es.modify j (fun e => { e with key := .string ⟨k.toArray⟩, val := v }) := by simp
        rw [this]
        exact ⟨h1, h2, g6 d v hr⟩

theorem luA_sound {t : TypeId} {x k r : AV} {ok : Bool} {vx vk : Value} {H' : List HO} (h : luA P H t x k ok = some (r, H')) (hsr : SR X K ι H w) (hx : RelA K ι H.length x vx) (hk : RelA K ι H.length k vk) :
    ∃ v w', (Instr.lookup t vx vk ok).run P w = .ok v w' ∧ Left X K ι H.length H' r v w' := by
  unfold luA at h
  split at h
  · rename_i kt et id s htm
    split at h
    · rename_i z es hkt hz hid
      simp only [Option.some.injEq, Prod.mk.injEq] at h
      obtain ⟨rfl, rfl⟩ := h
      obtain ⟨h1, ents, clock, h2, h3⟩ := hsr.obj id _ hid
      have hkg := hk.get
      cases hkg
      cases hx with
      | mp _ hi =>
        have hund := tkm_map htm
        have hus := tk_string hkt
        have hck : ∀ em, (Instr.checkKey em 10000 kt (.string ⟨s.toArray⟩)).run P w = .ok () w := fun em => MapKept.run_checkKey (k := .string ⟨s.toArray⟩) hus trivial em _
        rcases find_rel s 0 h3 with ⟨g1, g2, _⟩ | ⟨d, j, e, g1, g2, _, _, g5, _⟩
        · have hfk := MapKept.run_findKey (w := w) hus g2
          have hrun : (Instr.lookup t (.map (some (ι id).block)) (.string ⟨s.toArray⟩) ok).run P w = .ok (if ok then .tuple #[z, .bool false] else z) w := by
            simp only [Instr.lookup, Sem.run_bind, run_underlying hund, Result.andThen_ok, MapKept.run_getObj_map h2, Sem.run_pure, hck, hfk, run_zero' hz]
          refine ⟨_, w, hrun, Left.of_eq hsr ?_⟩
          rw [g1]
          cases ok with
          | true =>
            refine relA_mkTup rfl fun i hi => ?_
            match i, hi with
            | 0, _ => exact ofV_rel _ _ _ _
            | 1, _ => exact .d _ _ (.bool _)
          | false => exact ofV_rel _ _ _ _
        · have hfk := MapKept.run_findKey (w := w) hus g2
          have hrun : (Instr.lookup t (.map (some (ι id).block)) (.string ⟨s.toArray⟩) ok).run P w = .ok (if ok then .tuple #[e.val, .bool true] else e.val) w := by
            simp only [Instr.lookup, Sem.run_bind, run_underlying hund, Result.andThen_ok, MapKept.run_getObj_map h2, Sem.run_pure, hck, hfk]
          refine ⟨_, w, hrun, Left.of_eq hsr ?_⟩
          rw [g1]
          cases ok with
          | true =>
            refine .d _ _ (.tup _ _ rfl fun i hi => ?_)
            match i, hi with
            | 0, _ => exact g5
            | 1, _ => exact .bool _
          | false => exact .d _ _ g5
    · contradiction
  · contradiction

theorem muA_sound {t : TypeId} {m k x r : AV} {vm vk vx : Value} {H' : List HO} (h : muA P H t m k x = some (r, H')) (hsr : SR X K ι H w) (hm : RelA K ι H.length m vm) (hk : RelA K ι H.length k vk) (hx : RelA K ι H.length x vx) :
    ∃ w', (Instr.mapUpdate t vm vk vx).run P w = .ok () w' ∧ Left X K ι H.length H' r undef w' := by
  unfold muA at h
  split at h
  · rename_i kt et id s d htm
    split at h
    · rename_i es hkt hid
      simp only [Option.some.injEq, Prod.mk.injEq] at h
      obtain ⟨rfl, rfl⟩ := h
      obtain ⟨h1, ents, clock, h2, h3⟩ := hsr.obj id _ hid
      have hkg := hk.get
      have hxg := hx.get
      cases hkg
      cases hm with
      | mp _ hi =>
        have hund := tkm_map htm
        have hus := tk_string hkt
        have hck : ∀ em, (Instr.checkKey em 10000 kt (.string ⟨s.toArray⟩)).run P w = .ok () w := fun em => MapKept.run_checkKey (k := .string ⟨s.toArray⟩) hus trivial em _
        have fin : ∀ (ents' : Array MapEntry) (clock' : Nat), MpRel K (mpPut s d es) ents'.toList → Left X K ι H.length (H.set id (.mp (mpPut s d es))) (.d (.tup [])) undef (putMap w (ι id).block (.map ents' clock')) := by
          intro ents' clock' hrel
          have hag : Agree K (putMap w (ι id).block (.map ents' clock')) := fun a v e => by
            have hw := hsr.agree a v e
            have hne : a.block ≠ (ι id).block := by
              intro hc
              unfold World.cell? at hw
              rw [hc, h2] at hw
              simp at hw
            unfold World.cell? at hw ⊢
            rw [putMap_other hne]
            exact hw
          have hbe : Below X.w0.heap.size X.w0 (putMap w (ι id).block (.map ents' clock')) := hsr.below.trans ⟨rfl, rfl, rfl, by simp [putMap], fun k hk => putMap_other (by omega)⟩
          obtain ⟨s1, s2⟩ := hsr.set hid (ι id) (.mp (mpPut s d es)) (Mem.le_refl K) hag hbe hsr.kold ⟨rfl, Nat.le_refl _, fun _ => rfl⟩
            (fun i q hne hq => (hsr.obj i q hq).putMap (fun ho => hne (hsr.sep i id q _ _ hq hid ho rfl)))
            ⟨h1, ents', clock', putMap_same h2, hrel⟩ (fun b hb i q hne hq ho => hne (hsr.sep i id q (.mp es) b hq hid ho hb))
          exact ⟨K, _, s1, .d _ _ (.tup _ _ rfl fun i hi => by simp at hi), Mem.le_refl K, s2, by simp⟩
        rcases find_rel s 0 h3 with ⟨g1, g2, g3⟩ | ⟨d', j, e, g1, g2, g3, g4, g5, g6⟩
        · have hfk := MapKept.run_findKey (w := w) hus g2
          have hrun : (Instr.mapUpdate t (.map (some (ι id).block)) (.string ⟨s.toArray⟩) vx).run P w = .ok () (putMap w (ι id).block (.map (ents.push { key := .string ⟨s.toArray⟩, val := vx, born := clock }) (clock + 1))) := by
            simp only [Instr.mapUpdate, Sem.run_bind, run_underlying hund, Result.andThen_ok, MapKept.run_getObj_map h2, Sem.run_pure, hck, hfk, MapKept.run_setObj_map _ h2]
            rfl
          exact ⟨_, hrun, fin _ _ (by rw [Array.toList_push]; exact g3 d vx clock hxg)⟩
        · have hfk := MapKept.run_findKey (w := w) hus g2
          have hkey : ((ents[0 + j]?).map (·.key)).getD (.string ⟨s.toArray⟩) = .string ⟨s.toArray⟩ := by
            rw [Nat.zero_add]
            have : ents[j]? = some e := by simpa using g3
            rw [this]; exact g4
          have hst : (Instr.keyThatStays (.string ⟨s.toArray⟩) (.string ⟨s.toArray⟩)).run P w = .ok (.string ⟨s.toArray⟩) w := by
            have : Instr.sameBits 10000 (.string ⟨s.toArray⟩) (.string ⟨s.toArray⟩) = true := by
              have e : Instr.sameBits 10000 (.string ⟨s.toArray⟩) (.string ⟨s.toArray⟩) = ((⟨s.toArray⟩ : ByteArray) == ⟨s.toArray⟩) := by unfold Instr.sameBits; rfl
              rw [e]; exact (MapKept.bytes_beq _ _).2 rfl
            unfold Instr.keyThatStays
            rw [if_pos this]
            rfl
          have hrun : (Instr.mapUpdate t (.map (some (ι id).block)) (.string ⟨s.toArray⟩) vx).run P w = .ok () (putMap w (ι id).block (.map (ents.modify (0 + j) fun e => { e with key := .string ⟨s.toArray⟩, val := vx }) clock)) := by
            simp only [Instr.mapUpdate, Sem.run_bind, run_underlying hund, Result.andThen_ok, MapKept.run_getObj_map h2, Sem.run_pure, hck, hfk, hkey, hst, MapKept.run_setObj_map _ h2]
            rfl
          refine ⟨_, hrun, fin _ _ ?_⟩
          rw [Nat.zero_add, Array.toList_modify]
          exact g6 d vx hxg
    · contradiction
  · contradiction

theorem newMap_left (hsr : SR X K ι H w) : Left X K ι H.length (H ++ [.mp []]) (.mp H.length) (.map (some w.heap.size)) (w.alloc (.map #[] 0)) := by
  have hal : SR X K ι H (w.alloc (.map #[] 0)) := hsr.ext ⟨Mem.le_refl K, fun _ _ => rfl, agree_alloc hsr.agree _, (Below.refl _ _).alloc (Nat.le_refl _) _⟩
  refine ⟨K, _, hsr.push hal ⟨w.heap.size, undef, 0, 0⟩ (.mp []) ⟨hsr.size, #[], 0, heap_alloc_new w _, trivial⟩ ?_, ?_, Mem.le_refl K, place_le _ _ _, by simp⟩
  · intro b hb i h' hi ho
    simp only [owns] at hb; subst hb
    have := (owns_lt (hsr.obj i h' hi) ho).1
    omega
  · have := RelA.mp (K := K) (ι := place ι H.length ⟨w.heap.size, undef, 0, 0⟩) (n := (H ++ [HO.mp []]).length) H.length (by simp)
    rwa [place_same] at this

theorem hst_sound {e : Env} {o : Oper} {r : AV} {H' : List HO} {ρ : Operand → Value} (h : hst P G e H o.op = some (r, H')) (hsr : SR X K ι H w) (hρ : ∀ x, RelA K ι H.length (ev G e x) (ρ x)) :
    ∃ nx v w', (execOp ρ o).run P w = .ok nx w' ∧ nextV nx = some v ∧ Left X K ι H.length H' r v w' := by
  have wrap : ∀ {s : Sem Value} {v : Value} {w' : World}, s.run P w = .ok v w' → ((do pure (.value (← s))) : Sem Next).run P w = .ok (.value v) w' := fun hs => by simp [hs]
  obtain ⟨dst, op, T, pos, after, guard⟩ := o
  simp only at h
  unfold hst at h
  split at h
  · rename_i t
    split at h
    · rename_i z hz
      simp only [Option.some.injEq, Prod.mk.injEq] at h
      obtain ⟨rfl, rfl⟩ := h
      refine ⟨_, _, _, wrap (v := .pointer (some ⟨w.heap.size, 0, none⟩)) (w' := w.alloc (.cells z.cells t)) ?_, rfl, ?_⟩
      · simp [Instr.alloc, run_zero' hz, newVar, newRow]
      have hp := RelA.ptr (K := K) (ι := place ι H.length ⟨w.heap.size, undef, 0, 0⟩) (n := H.length + 1) H.length 0 (by omega)
      rw [place_same] at hp
      have hrel : ∀ j, j < (ofVL z.cells.toList).length → RelA K ι H.length ((ofVL z.cells.toList).getD j .junk) (z.cells.getD j undef) := fun j hj => by
        rw [ofVL_length] at hj
        rw [← getD_toList]
        exact ofVL_rel K ι H.length _ _ hj
      have hsz : z.cells.size = (ofVL z.cells.toList).length := by simp [ofVL_length]
      generalize ofVL z.cells.toList = cs at hrel hsz
      have plain : Left X K ι H.length (H ++ [.box cs]) (.ptr H.length 0) (.pointer (some ⟨w.heap.size, 0, none⟩)) (w.alloc (.cells z.cells t)) := Left.newBox hsr _ t _ hsz hrel hp
      unfold alM
      split
      · rename_i e hb
        have h0 := (hrel 0 (by simp)).get
        have h1 := (hrel 1 (by simp)).get
        have hz2 : z.cells = #[.pointer none, .slice none 0 0] := by
          apply Array.ext (by simpa using hsz)
          intro i g1 g2
          have e1 : z.cells.getD i undef = z.cells[i] := by simp [Array.getD, g1]
          match i, g2 with
          | 0, _ =>
            rw [e1] at h0
            generalize z.cells[0] = u at h0
            cases h0; rfl
          | 1, _ =>
            rw [e1] at h1
            generalize z.cells[1] = u at h1
            cases h1 with
            | slnil => rfl
            | sl _ _ _ _ _ _ hst => exact absurd rfl hst
        rw [hz2]
        have hal : SR X K ι H (w.alloc (.cells #[.pointer none, .slice none 0 0] t)) := hsr.ext ⟨Mem.le_refl K, fun _ _ => rfl, agree_alloc hsr.agree _, (Below.refl _ _).alloc (Nat.le_refl _) _⟩
        refine ⟨K, _, hsr.push hal ⟨w.heap.size, undef, 0, 0⟩ (.bld t e []) ?_ ?_, by simpa using hp, Mem.le_refl K, place_le _ _ _, by simp⟩
        · refine ⟨hsr.size, fun o => none_of_ge hsr.agree (Nat.le_refl _), .pointer none, .slice none 0 0, heap_alloc_new w _, .inl rfl, ⟨rfl, .inl ⟨rfl, rfl⟩⟩, .inl ⟨rfl, rfl, rfl⟩⟩
        · rintro b (rfl | ⟨hl, _⟩) i h' hi ho
          · exact Nat.lt_irrefl _ (owns_lt (hsr.obj i h' hi) ho).1
          · simp at hl
      · exact plain
    · contradiction
  · rename_i t x
    split at h
    · rename_i cs hcs
      simp only [Option.some.injEq, Prod.mk.injEq] at h
      obtain ⟨rfl, rfl⟩ := h
      obtain ⟨q1, q2⟩ := cellsA_rel (hρ x) hcs
      refine ⟨_, _, _, wrap (v := .pointer (some ⟨w.heap.size, 0, none⟩)) (w' := w.alloc (.cells (ρ x).cells t)) ?_, rfl, Left.newBox hsr _ t _ q1 q2 ?_⟩
      · simp [Instr.box, newVar, newRow]
      · have := RelA.ptr (K := K) (ι := place ι H.length ⟨w.heap.size, undef, 0, 0⟩) (n := H.length + 1) H.length 0 (by omega)
        rwa [place_same] at this
    · contradiction
  · rename_i t x
    obtain ⟨v, w', hrun, hl⟩ := ldB_sound h hsr (hρ x)
    exact ⟨_, v, w', wrap hrun, rfl, hl⟩
  · rename_i t x y
    obtain ⟨w', hrun, hl⟩ := stB_sound h hsr (hρ x) (hρ y)
    exact ⟨.skip, _, w', by simp [execOp, hrun], rfl, hl⟩
  · rename_i t l c
    split at h
    · rename_i hz
      cases l with
      | const lv =>
        cases lv with
        | int k0 n0 =>
          simp only [isZ, decide_eq_true_eq] at hz
          subst hz
          have hlr := hρ (.const (.int k0 0))
          have hlr' := hlr.get
          have : ρ (.const (.int k0 0)) = .int k0 0 := by generalize ρ (.const (.int k0 0)) = u at hlr'; cases hlr'; rfl
          obtain ⟨v, w', hrun, hl⟩ := mkZ_sound (k0 := k0) h hsr (hρ c)
          rw [← this] at hrun
          exact ⟨_, v, w', wrap hrun, rfl, hl⟩
        | _ => simp [isZ] at hz
      | _ => simp [isZ] at hz
    · obtain ⟨v, w', hrun, hl⟩ := mkA_sound h hsr (hρ l) (hρ c)
      exact ⟨_, v, w', wrap hrun, rfl, hl⟩
  · rename_i t len parts
    obtain ⟨v, w', hrun, hl⟩ := bsA_sound (vparts := parts.map fun p => (p.1, ρ p.2)) h hsr (by simp) (by
      intro i x y hx hy
      simp only [List.getElem?_map, Option.map_eq_some_iff, Array.toList_map] at hx hy
      obtain ⟨p, hp, rfl⟩ := hx
      obtain ⟨q, hq, rfl⟩ := hy
      rw [hp] at hq
      simp only [Option.some.injEq] at hq; subst hq
      exact ⟨rfl, hρ _⟩)
    exact ⟨_, v, w', wrap hrun, rfl, hl⟩
  · rename_i s d x
    obtain ⟨v, w', hrun, hl⟩ := cvH_sound h hsr (hρ x)
    exact ⟨_, v, w', wrap hrun, rfl, hl⟩
  · rename_i s x tS tX
    obtain ⟨v, w', hrun, hl⟩ := apA_sound (ty := T) h hsr (hρ s) (hρ x)
    refine ⟨.value v, v, w', ?_, rfl, hl⟩
    have hm : Array.map ρ ⟨[s, x]⟩ = #[ρ s, ρ x] := by simp
    simp only [execOp, resolve, Sem.run_bind, Sem.run_pure, Result.andThen_ok, invoke, builtin, hm, hrun]
  · rename_i t
    simp only [Option.some.injEq, Prod.mk.injEq] at h
    obtain ⟨rfl, rfl⟩ := h
    exact ⟨_, _, _, wrap (v := .map (some w.heap.size)) (w' := w.alloc (.map #[] 0)) rfl, rfl, newMap_left hsr⟩
  · rename_i t x k ok
    obtain ⟨v, w', hrun, hl⟩ := luA_sound h hsr (hρ x) (hρ k)
    exact ⟨_, v, w', wrap hrun, rfl, hl⟩
  · rename_i t m k x
    obtain ⟨w', hrun, hl⟩ := muA_sound h hsr (hρ m) (hρ k) (hρ x)
    exact ⟨.skip, _, w', by simp [execOp, hrun], rfl, hl⟩
  · contradiction

end
end Go.Proofs.YtjmldlknegbimaaGreatDoor.Sx
