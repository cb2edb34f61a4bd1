/- Pure operations at abstract values, and their soundness: parts, addresses, slices, conversions. Own library, part 4. -/
import Derived.Test.YtjmldlknegbimaaDoorA3
set_option linter.unusedVariables false
set_option linter.unusedSimpArgs false
namespace Go.Proofs.YtjmldlknegbimaaDoor.Sx
open Go Go.RowKit

section
variable {P : Program} {K : Mem} {ι : Nat → Pl} {n : Nat}

def cellsA : AV → Option (List AV)
  | .d (.agg cs) => some (cs.map .d)
  | .agg cs => some cs
  | .junk => none
  | x => some [x]

theorem getD_toList (vs : Array Value) (i : Nat) : vs.toList.getD i undef = vs.getD i undef := by
  simp [Array.getD, List.getD_eq_getElem?_getD]
  split <;> simp_all

theorem cellsA_rel {x : AV} {v : Value} {cs : List AV} (h : RelA K ι n x v) (hc : cellsA x = some cs) :
    v.cells.size = cs.length ∧ ∀ i, i < cs.length → RelA K ι n (cs.getD i .junk) (v.cells.getD i undef) := by
  cases h with
  | d x v h =>
    cases h with
    | agg ds vs hl hr =>
      simp only [cellsA, Option.some.injEq] at hc; subst hc
      refine ⟨by simpa [Value.cells] using hl, fun i hi => ?_⟩
      rw [getD_map' AV.d ds i .nilp _ (by simpa using hi)]
      exact .d _ _ (hr i (by simpa using hi))
    | _ =>
      simp only [cellsA, Option.some.injEq] at hc; subst hc
      refine ⟨rfl, fun i hi => ?_⟩
      obtain rfl : i = 0 := by simpa using hi
      simp only [List.getD_cons_zero, Value.cells, Array.getD_eq_getD_getElem?]
      refine .d _ _ ?_
      first | exact .bool _ | exact .int _ _ | exact .str _ | exact .nilp | exact .nilf | exact .nili | exact .func _ | exact .ifc _ _ _ ‹_› | exact .slnil _ | (exact .sl _ _ _ _ _ _ ‹_› ‹_› ‹_› ‹_› ‹_› ‹_›) | (exact .tup _ _ ‹_› ‹_›) | (exact .eptr _ _ _ _ ‹_› ‹_›)
  | agg ds vs hl hr =>
    simp only [cellsA, Option.some.injEq] at hc; subst hc
    exact ⟨hl, hr⟩
  | junk v => simp [cellsA] at hc
  | ptr id off h =>
    simp only [cellsA, Option.some.injEq] at hc; subst hc
    refine ⟨rfl, fun i hi => ?_⟩
    obtain rfl : i = 0 := by simpa using hi
    exact .ptr _ _ h
  | tsl tok es v h ht hl hcu =>
    simp only [cellsA, Option.some.injEq] at hc; subst hc
    have hv : v.cells = #[v] := by cases h <;> rfl
    rw [hv]
    refine ⟨rfl, fun i hi => ?_⟩
    obtain rfl : i = 0 := by simpa using hi
    exact .tsl _ _ _ h ht hl hcu
  | bsl id off len cap h =>
    simp only [cellsA, Option.some.injEq] at hc; subst hc
    refine ⟨rfl, fun i hi => ?_⟩
    obtain rfl : i = 0 := by simpa using hi
    exact .bsl _ _ _ _ h
  | clo f caps vs hl h =>
    simp only [cellsA, Option.some.injEq] at hc; subst hc
    refine ⟨rfl, fun i hi => ?_⟩
    obtain rfl : i = 0 := by simpa using hi
    exact .clo _ _ _ hl h
  | mp id h =>
    simp only [cellsA, Option.some.injEq] at hc; subst hc
    refine ⟨rfl, fun i hi => ?_⟩
    obtain rfl : i = 0 := by simpa using hi
    exact .mp _ h
  | tup caps vs hl h =>
    simp only [cellsA, Option.some.injEq] at hc; subst hc
    refine ⟨rfl, fun i hi => ?_⟩
    obtain rfl : i = 0 := by simpa using hi
    exact .tup _ _ hl h

/-! A part of some cells -/
def partA (P : Program) (t : TypeId) (cs : List AV) (off : Nat) : Option AV :=
  match tk P t, tsz P t with
  | some k, some n => if k.isAgg then (if off + n ≤ cs.length then some (mkAgg ((cs.drop off).take n)) else none) else cs[off]?
  | _, _ => none

theorem getD_take_drop {α : Type} (l : List α) (a b i : Nat) (d : α) (h : i < b) : ((l.drop a).take b).getD i d = l.getD (a + i) d := by
  simp [List.getD_eq_getElem?_getD, List.getElem?_take, h, List.getElem?_drop]

theorem part_sound {t : TypeId} {cs : List AV} {off : Nat} {r : AV} {vs : Array Value} (h : partA P t cs off = some r) (hl : vs.size = cs.length)
    (hr : ∀ i, i < cs.length → RelA K ι n (cs.getD i .junk) (vs.getD i undef)) (w : World) : ∃ v, (part t vs off).run P w = .ok v w ∧ RelA K ι n r v := by
  unfold partA at h
  split at h
  · rename_i k m hk hm
    split at h
    · rename_i ha
      split at h
      · rename_i hle
        simp only [Option.some.injEq] at h; subst h
        refine ⟨.agg (vs.extract off (off + m)), ?_, relA_mkAgg (by simp; omega) fun i hi => ?_⟩
        · simp [part, run_isAgg hk, ha, run_sizeOf' hm]
        · simp only [List.length_take, List.length_drop] at hi
          rw [getD_take_drop _ _ _ _ _ (by omega)]
          have : (vs.extract off (off + m)).getD i undef = vs.getD (off + i) undef := by
            simp only [Array.getD_eq_getD_getElem?, Array.getElem?_extract]
            rw [if_pos (by omega)]
          rw [this]
          exact hr _ (by omega)
      · contradiction
    · rename_i ha
      have hlt : off < cs.length := by
        by_cases hc : off < cs.length
        · exact hc
        · rw [List.getElem?_eq_none (by omega)] at h; contradiction
      refine ⟨vs.getD off undef, ?_, ?_⟩
      · have hv : vs[off]? = some (vs.getD off undef) := by simp [Array.getD, hl, hlt]
        simp only [part, Sem.run_bind, run_isAgg hk, Result.andThen_ok, ha, if_false, Bool.false_eq_true]
        rw [hv]
        rfl
      · have := hr off hlt
        rw [List.getElem?_eq_getElem hlt] at h
        simp only [Option.some.injEq] at h; subst h
        rwa [List.getD_eq_getElem?_getD, List.getElem?_eq_getElem hlt] at this
  · contradiction

theorem load_sound {t : TypeId} {cs : List AV} {off : Nat} {r : AV} {a : Addr} {val : Nat → Value} {w : World} (h : partA P t cs off = some r)
    (hc : ∀ j, j < cs.length → w.cell? (a.add j) = some (val j))
    (hr : ∀ i, i < cs.length → RelA K ι n (cs.getD i .junk) (val i)) : ∃ v, (loadVar t (a.add off)).run P w = .ok v w ∧ RelA K ι n r v := by
  unfold partA at h
  split at h
  · rename_i k m hk hm
    split at h
    · rename_i ha
      split at h
      · rename_i hle
        simp only [Option.some.injEq] at h; subst h
        have hrun := run_loadCells (P := P) w (a.add off) m (fun j => val (off + j)) (fun j hj => by rw [Addr.add_add]; exact hc _ (by omega))
        refine ⟨.agg ((List.range m).map fun j => val (off + j)).toArray, ?_, relA_mkAgg (by simp; omega) fun i hi => ?_⟩
        · simp [loadVar, run_isAgg hk, ha, run_sizeOf' hm, hrun]
        · simp only [List.length_take, List.length_drop] at hi
          rw [getD_take_drop _ _ _ _ _ (by omega)]
          have : (((List.range m).map fun j => val (off + j)).toArray).getD i undef = val (off + i) := by
            simp [Array.getD, show i < m from by omega]
          rw [this]
          exact hr _ (by omega)
      · contradiction
    · rename_i ha
      have hlt : off < cs.length := by
        by_cases hc : off < cs.length
        · exact hc
        · rw [List.getElem?_eq_none (by omega)] at h; contradiction
      refine ⟨val off, ?_, ?_⟩
      · simp [loadVar, run_isAgg hk, ha, hc off hlt]
      · have := hr off hlt
        rw [List.getElem?_eq_getElem hlt] at h
        simp only [Option.some.injEq] at h; subst h
        rwa [List.getD_eq_getElem?_getD, List.getElem?_eq_getElem hlt] at this
  · contradiction

/-! Field of a value; address of a field -/
def fieldOf (P : Program) (t : TypeId) (f : Nat) : Option (TypeId × Nat) :=
  match tk P t with
  | some (.struct fs) => fs[f]?
  | _ => none

theorem fieldOf_some {t : TypeId} {f : Nat} {u : TypeId} {o : Nat} (h : fieldOf P t f = some (u, o)) :
    ∃ Fs F, P.underlying t = some (.struct Fs) ∧ Fs[f]? = some F ∧ F.type = u ∧ F.offset = o := by
  unfold fieldOf at h
  split at h
  · rename_i fs hk
    obtain ⟨Fs, hu, rfl⟩ := tk_struct hk
    simp only [List.getElem?_map, Option.map_eq_some_iff, Array.getElem?_toList] at h
    obtain ⟨F, hF, e⟩ := h
    simp only [Prod.mk.injEq] at e
    exact ⟨Fs, F, hu, hF, e.1, e.2⟩
  · contradiction

def fieldA (P : Program) (t : TypeId) (x : AV) (f : Nat) : Option AV :=
  match fieldOf P t f with
  | some (u, o) =>
    match x with
    | .d (.agg cs) => partA P u (cs.map .d) o
    | .agg cs => partA P u cs o
    | _ => none
  | none => none

theorem fieldA_sound {t : TypeId} {x r : AV} {f : Nat} {v : Value} (h : fieldA P t x f = some r) (hx : RelA K ι n x v) (w : World) :
    ∃ u, (Instr.field t v f).run P w = .ok u w ∧ RelA K ι n r u := by
  unfold fieldA at h
  split at h
  · rename_i u o hf
    obtain ⟨Fs, F, hu, hF, rfl, rfl⟩ := fieldOf_some hf
    split at h
    · rename_i cs
      have hg := hx.get
      cases hg with
      | agg _ vs hl hr =>
        obtain ⟨y, hy, hy2⟩ := part_sound (P := P) (K := K) (ι := ι) (n := n) (vs := vs) h (by simpa using hl) (fun i hi => by
          rw [getD_map' AV.d cs i .nilp _ (by simpa using hi)]
          exact .d _ _ (hr i (by simpa using hi))) w
        exact ⟨y, by simp [Instr.field, run_underlying hu, hF, asAgg, hy], hy2⟩
    · rename_i cs
      cases hx with
      | agg _ vs hl hr =>
        obtain ⟨y, hy, hy2⟩ := part_sound (P := P) (K := K) (ι := ι) (n := n) (vs := vs) h hl hr w
        exact ⟨y, by simp [Instr.field, run_underlying hu, hF, asAgg, hy], hy2⟩
    · contradiction
  · contradiction

def nz (o : Option Nat) : Bool :=
  match o with
  | some (_ + 1) => true
  | _ => false

def faA (P : Program) (t : TypeId) (x : AV) (f : Nat) : Option AV :=
  match fieldOf P t f with
  | some (u, o) =>
    if nz (tsz P u) then
      match x with
      | .ptr id off => some (.ptr id (off + o))
      | .d (.eptr cs off) => some (.d (.eptr cs (off + o)))
      | _ => none
    else none
  | none => none

theorem nz_some {o : Option Nat} (h : nz o = true) : ∃ m, o = some (m + 1) := by
  unfold nz at h
  split at h
  · exact ⟨_, rfl⟩
  · contradiction

theorem faA_sound {t : TypeId} {x r : AV} {f : Nat} {v : Value} (h : faA P t x f = some r) (hx : RelA K ι n x v) (w : World) :
    ∃ u, (Instr.fieldAt t v f).run P w = .ok u w ∧ RelA K ι n r u := by
  unfold faA at h
  split at h
  · rename_i u o hf
    obtain ⟨Fs, F, hu, hF, rfl, rfl⟩ := fieldOf_some hf
    split at h
    · rename_i hz
      obtain ⟨m, hm⟩ := nz_some hz
      split at h
      · rename_i id off
        simp only [Option.some.injEq] at h; subst h
        cases hx with
        | ptr _ _ hi =>
          refine ⟨_, by simp [Instr.fieldAt, run_underlying hu, hF, Instr.sureAddr, fieldPlace, run_sizeOf' hm]; rfl, ?_⟩
          rw [Addr.add_mk]
          exact .ptr _ _ hi
      · rename_i cs off
        simp only [Option.some.injEq] at h; subst h
        have hg := hx.get
        cases hg with
        | eptr _ _ a val hK hr =>
          refine ⟨_, by simp [Instr.fieldAt, run_underlying hu, hF, Instr.sureAddr, fieldPlace, run_sizeOf' hm]; rfl, ?_⟩
          rw [Addr.add_add]
          exact .d _ _ (.eptr _ _ _ _ hK hr)
      · contradiction
    · contradiction
  · contradiction

/-! Index -/
def elA (s : Nat) (es : List (List DV)) (i : Int) : Option AV :=
  if 0 ≤ i ∧ i < es.length ∧ (es.getD i.toNat []).length = s then some (.d (.eptr (es.getD i.toNat []) 0)) else none

def iaA (P : Program) (t : TypeId) (x i : AV) : Option AV :=
  match tk P t, i with
  | some (.slice e), .d (.int _ j) =>
    match tsz P e with
    | some s =>
      match x with
      | .d (.sl _ es) => elA s es j
      | .tsl _ es => elA s es j
      | .bsl id off len _ => if 0 ≤ j ∧ j < len then some (.ptr id (off + j.toNat * s)) else none
      | _ => none
    | none => none
  | some (.array m e), .d (.int _ j) =>
    match tsz P e with
    | some s =>
      if 0 ≤ j ∧ j < m then
        match x with
        | .ptr id off => some (.ptr id (off + j.toNat * s))
        | .d (.eptr cs off) => some (.d (.eptr cs (off + j.toNat * s)))
        | _ => none
      else none
    | none => none
  | _, _ => none

theorem elA_sound {t e : TypeId} {s : Nat} {es : List (List DV)} {k : IntKind} {j : Int} {r : AV} {v : Value} (ht : P.underlying t = some (.slice e)) (hs : tsz P e = some s)
    (h : elA s es j = some r) (hx : Rel K (.sl .any es) v) (w : World) : ∃ u, (Instr.indexAt t v (.int k j)).run P w = .ok u w ∧ RelA K ι n r u := by
  unfold elA at h
  split at h
  · rename_i hc
    obtain ⟨h0, h1, h2⟩ := hc
    simp only [Option.some.injEq] at h; subst h
    have hj : j.toNat < es.length := by omega
    cases hx with
    | slnil => simp at hj
    | sl _ _ a cap sz val hst hf hcap hz hK hr =>
      have hsz := hz _ hj
      have hss : sz = s := by omega
      subst hss
      refine ⟨.pointer (some (a.add (j.toNat * sz))), ?_, ?_⟩
      · simp [Instr.indexAt, asIntOf, run_underlying ht, h0, h1, run_sizeOf' hs]
      · rw [show a.add (j.toNat * sz) = (a.add (j.toNat * sz)).add 0 from by simp [Addr.add]]
        refine .d _ _ (.eptr _ _ _ (fun q => val j.toNat q) (fun q hq => ?_) (fun q hq => hr _ _ hj (by omega)))
        rw [Addr.add_add]
        exact hK _ _ hj (by omega)
  · contradiction

theorem iaA_sound {t : TypeId} {x i r : AV} {vx vi : Value} (h : iaA P t x i = some r) (hx : RelA K ι n x vx) (hi : RelA K ι n i vi) (w : World) :
    ∃ u, (Instr.indexAt t vx vi).run P w = .ok u w ∧ RelA K ι n r u := by
  unfold iaA at h
  split at h
  · rename_i e k j hk
    have ht := tk_slice hk
    have hg := hi.get
    cases hg
    split at h
    · rename_i s hs
      split at h
      · exact elA_sound ht hs h hx.get.any w
      · cases hx with
        | tsl _ _ _ hx' _ _ _ => exact elA_sound ht hs h hx' w
      · rename_i id off len cap
        split at h
        · rename_i hc
          simp only [Option.some.injEq] at h; subst h
          cases hx with
          | bsl _ _ _ _ hid =>
            refine ⟨_, by simp [Instr.indexAt, asIntOf, run_underlying ht, hc.1, hc.2, run_sizeOf' hs]; rfl, ?_⟩
            rw [Addr.add_mk]
            exact .ptr _ _ hid
        · contradiction
      · contradiction
    · contradiction
  · rename_i m e k j hk
    have ht := tk_array hk
    have hg := hi.get
    cases hg
    split at h
    · rename_i s hs
      split at h
      · rename_i hc
        split at h
        · rename_i id off
          simp only [Option.some.injEq] at h; subst h
          cases hx with
          | ptr _ _ hid =>
            refine ⟨_, by simp [Instr.indexAt, asIntOf, run_underlying ht, hc.1, hc.2, run_sizeOf' hs, Instr.sureAddr]; rfl, ?_⟩
            rw [Addr.add_mk]
            exact .ptr _ _ hid
        · rename_i cs off
          simp only [Option.some.injEq] at h; subst h
          have hg := hx.get
          cases hg with
          | eptr _ _ a val hK hr =>
            refine ⟨_, by simp [Instr.indexAt, asIntOf, run_underlying ht, hc.1, hc.2, run_sizeOf' hs, Instr.sureAddr]; rfl, ?_⟩
            rw [Addr.add_add]
            exact .d _ _ (.eptr _ _ _ _ hK hr)
        · contradiction
      · contradiction
    · contradiction
  · contradiction

def ixA (P : Program) (t : TypeId) (x i : AV) : Option AV :=
  match tk P t, x, i with
  | some .string, .d (.str s), .d (.int _ j) => if 0 ≤ j ∧ j < s.length then some (.d (.int .u8 ((s.getD j.toNat 0).toNat : Nat))) else none
  | some (.array m e), .d (.agg cs), .d (.int _ j) =>
    match tsz P e with
    | some z => if 0 ≤ j ∧ j < m then partA P e (cs.map .d) (j.toNat * z) else none
    | none => none
  | some (.array m e), .agg cs, .d (.int _ j) =>
    match tsz P e with
    | some z => if 0 ≤ j ∧ j < m then partA P e cs (j.toNat * z) else none
    | none => none
  | _, _, _ => none

theorem ixA_sound {t : TypeId} {x i r : AV} {vx vi : Value} (h : ixA P t x i = some r) (hx : RelA K ι n x vx) (hi : RelA K ι n i vi) (w : World) :
    ∃ u, (Instr.index t vx vi).run P w = .ok u w ∧ RelA K ι n r u := by
  unfold ixA at h
  split at h
  · rename_i s k j hk
    have hg := hi.get
    cases hg
    have hg := hx.get
    cases hg
    split at h
    · rename_i hc
      simp only [Option.some.injEq] at h; subst h
      refine ⟨.int .u8 (s.getD j.toNat 0).toNat, ?_, .d _ _ (.int _ _)⟩
      have hlt : j.toNat < (⟨s.toArray⟩ : ByteArray).size := by simp [ByteArray.size]; omega
      have hb : (⟨s.toArray⟩ : ByteArray)[j.toNat]? = some (s.getD j.toNat 0) := by
        rw [ByteArray.getElem?_lt' _ _ hlt]
        simp [ByteArray.getElem_eq_getElem_data, List.getD_eq_getElem?_getD, show j.toNat < s.length from by omega]
      simp [Instr.index, asIntOf, run_underlying (tk_string hk), hc.1, hb]
    · contradiction
  · rename_i m e cs k j hk
    have hg := hi.get
    cases hg
    have hg := hx.get
    split at h
    · rename_i z hz
      split at h
      · rename_i hc
        cases hg with
        | agg _ vs hl hr =>
          obtain ⟨y, hy, hy2⟩ := part_sound (P := P) (K := K) (ι := ι) (n := n) (vs := vs) h (by simpa using hl) (fun i hi => by
            rw [getD_map' AV.d cs i .nilp _ (by simpa using hi)]
            exact .d _ _ (hr i (by simpa using hi))) w
          exact ⟨y, by simp [Instr.index, asIntOf, run_underlying (tk_array hk), hc.1, hc.2, run_sizeOf' hz, hy], hy2⟩
      · contradiction
    · contradiction
  · rename_i m e cs k j hk
    have hg := hi.get
    cases hg
    split at h
    · rename_i z hz
      split at h
      · rename_i hc
        cases hx with
        | agg _ vs hl hr =>
          obtain ⟨y, hy, hy2⟩ := part_sound (P := P) (K := K) (ι := ι) (n := n) (vs := vs) h hl hr w
          exact ⟨y, by simp [Instr.index, asIntOf, run_underlying (tk_array hk), hc.1, hc.2, run_sizeOf' hz, hy], hy2⟩
      · contradiction
    · contradiction
  · contradiction

/-! Cuts -/
def asI : AV → Option Int
  | .d (.int _ j) => some j
  | _ => none

theorem asI_some {x : AV} {j : Int} (h : asI x = some j) : ∃ k, x = .d (.int k j) := by
  unfold asI at h
  split at h
  · simp only [Option.some.injEq] at h; subst h; exact ⟨_, rfl⟩
  · contradiction

/-- The two bounds of a cut of something of a length. -/
def bdA (len : Nat) (lo hi : Option AV) : Option (Nat × Nat) :=
  match (match hi with | none => some (len : Int) | some x => asI x), (match lo with | none => some (0 : Int) | some x => asI x) with
  | some h, some l => if 0 ≤ l ∧ l ≤ h ∧ h ≤ len then some (l.toNat, h.toNat) else none
  | _, _ => none

def strCut (s : List UInt8) (l h : Nat) : List UInt8 := (s.take h).drop l

inductive RelO (K : Mem) (ι : Nat → Pl) (n : Nat) : Option AV → Option Value → Prop
  | none : RelO K ι n none none
  | some (x : AV) (v : Value) (h : RelA K ι n x v) : RelO K ι n (some x) (some v)

theorem bounds_sound {isSlice : Bool} {len cap : Nat} {lo hi : Option AV} {vl vh : Option Value} {l h : Nat} (hb : bdA len lo hi = some (l, h)) (hcap : len ≤ cap) (hne : isSlice = false → cap = len)
    (hl : RelO K ι n lo vl) (hh : RelO K ι n hi vh) (w : World) : (Instr.sliceBounds isSlice len cap vl vh none).run P w = .ok (l, h, cap) w ∧ l ≤ h ∧ h ≤ len := by
  unfold bdA at hb
  cases hh with
  | none =>
    cases hl with
    | none =>
      simp only at hb
      split at hb
      · rename_i hc
        simp only [Option.some.injEq, Prod.mk.injEq] at hb
        obtain ⟨rfl, rfl⟩ := hb
        exact ⟨by simp [Instr.sliceBounds], by omega, by omega⟩
      · contradiction
    | some x v hx =>
      simp only at hb
      cases ha : asI x with
      | none => rw [ha] at hb; contradiction
      | some j =>
        rw [ha] at hb
        obtain ⟨k, rfl⟩ := asI_some ha
        have hg := hx.get
        cases hg
        simp only at hb
        split at hb
        · rename_i hc
          simp only [Option.some.injEq, Prod.mk.injEq] at hb
          obtain ⟨rfl, rfl⟩ := hb
          refine ⟨?_, by omega, by omega⟩
          simp [Instr.sliceBounds, run_sliceBound (P := P) w k j len .sliceB hc.1 (by omega)]
        · contradiction
  | some y u hy =>
    simp only at hb
    cases hah : asI y with
    | none => rw [hah] at hb; contradiction
    | some jh =>
      rw [hah] at hb
      obtain ⟨kh, rfl⟩ := asI_some hah
      have hg := hy.get
      cases hg
      cases hl with
      | none =>
        simp only at hb
        split at hb
        · rename_i hc
          simp only [Option.some.injEq, Prod.mk.injEq] at hb
          obtain ⟨rfl, rfl⟩ := hb
          refine ⟨?_, by omega, by omega⟩
          simp [Instr.sliceBounds, run_sliceBound (P := P) w kh jh cap _ (by omega) (by omega)]
        · contradiction
      | some x v hx =>
        simp only at hb
        cases ha : asI x with
        | none => rw [ha] at hb; contradiction
        | some j =>
          rw [ha] at hb
          obtain ⟨k, rfl⟩ := asI_some ha
          have hg := hx.get
          cases hg
          simp only at hb
          split at hb
          · rename_i hc
            simp only [Option.some.injEq, Prod.mk.injEq] at hb
            obtain ⟨rfl, rfl⟩ := hb
            refine ⟨?_, by omega, by omega⟩
            simp [Instr.sliceBounds, run_sliceBound (P := P) w kh jh cap _ (by omega) (by omega), run_sliceBound (P := P) w k j jh.toNat .sliceB hc.1 (by omega)]
          · contradiction

/-- All elements have so many cells. -/
def szOk (z : Nat) (es : List (List DV)) : Bool := es.all (fun c => c.length == z)

theorem szOk_map {α : Type} {z : Nat} (f : α → List DV) (xs : List α) (h : ∀ x, (f x).length = z) : szOk z (xs.map f) = true := by
  simp [szOk, h]
theorem szOk_nil (z : Nat) : szOk z [] = true := rfl
theorem szOk_cons (z : Nat) (c : List DV) (es : List (List DV)) : szOk z (c :: es) = (c.length == z && szOk z es) := by simp [szOk]
theorem szOk_append (z : Nat) (es es' : List (List DV)) : szOk z (es ++ es') = (szOk z es && szOk z es') := by simp [szOk]
theorem szOk_take (z k : Nat) (es : List (List DV)) (h : szOk z es = true) : szOk z (es.take k) = true := by
  simp only [szOk, List.all_eq_true] at *
  exact fun c hc => h c (List.mem_of_mem_take hc)
theorem szOk_drop (z k : Nat) (es : List (List DV)) (h : szOk z es = true) : szOk z (es.drop k) = true := by
  simp only [szOk, List.all_eq_true] at *
  exact fun c hc => h c (List.mem_of_mem_drop hc)
theorem szOk_get {z : Nat} {es : List (List DV)} (h : szOk z es = true) {i : Nat} (hi : i < es.length) : (es.getD i []).length = z := by
  simp only [szOk, List.all_eq_true] at h
  have := h es[i] (List.getElem_mem hi)
  simp [List.getD_eq_getElem?_getD, hi]
  simpa using this

def slA (P : Program) (t : TypeId) (x : AV) (lo hi mx : Option AV) : Option AV :=
  match tk P t, mx with
  | some .string, none =>
    match x with
    | .d (.str s) =>
      match bdA s.length lo hi with
      | some (l, h) => some (.d (.str (strCut s l h)))
      | none => none
    | _ => none
  | some (.slice e), none =>
    match tsz P e with
    | some z =>
      match x with
      | .d (.sl _ es) =>
        if szOk z es then
        match bdA es.length lo hi with
        | some (l, h) => some (.d (.sl .any ((es.take h).drop l)))
        | none => none
        else none
      | .tsl _ es =>
        if szOk z es then
        match bdA es.length lo hi with
        | some (l, h) => some (.d (.sl .any ((es.take h).drop l)))
        | none => none
        else none
      | .bsl id off len cap =>
        if len ≤ cap then
        match bdA len lo hi with
        | some (l, h) => some (.bsl id (if cap = l then off else off + l * z) (h - l) (cap - l))
        | none => none
        else none
      | _ => none
    | none => none
  | some (.slice e), some m =>
    match tsz P e, (match x with | .d (.sl _ es) => some es | .tsl _ es => some es | _ => none), asI m, (match hi with | some h => asI h | none => none), (match lo with | none => some (0 : Int) | some x => asI x) with
    | some z, some es, some m, some h, some l =>
      if szOk z es then
        if 0 ≤ l ∧ l ≤ h ∧ h ≤ m ∧ m ≤ es.length then some (.d (.sl (if h = m then .full else .any) ((es.take h.toNat).drop l.toNat))) else none
      else none
    | _, _, _, _, _ => none
  | _, _ => none

theorem extract_str (s : List UInt8) (l h : Nat) : (⟨s.toArray⟩ : ByteArray).extract l h = ⟨(strCut s l h).toArray⟩ := by
  apply ByteArray.ext
  simp [strCut, ByteArray.data_extract, List.extract_eq_take_drop, List.drop_take]

theorem sl_cut {st' : St} {es : List (List DV)} {a : Addr} {cap' l h sz : Nat} {val : Nat → Nat → Value} (hst' : st' ≠ .nil) (hf' : st' = .full → cap' = h - l) (hle : l ≤ h) (hh : h ≤ es.length) (hcap : h - l ≤ cap')
    (hz : ∀ i, i < es.length → (es.getD i []).length = sz) (hK : ∀ i j, i < es.length → j < sz → K (a.add (i * sz + j)) = some (val i j))
    (hr : ∀ i j, i < es.length → j < sz → Rel K ((es.getD i []).getD j .nilp) (val i j)) (b : Addr) (hb : b = a.add (l * sz) ∨ h = l) :
    Rel K (.sl st' ((es.take h).drop l)) (.slice (some b) (h - l) cap') := by
  have hlen : ((es.take h).drop l).length = h - l := by simp; omega
  have hget : ∀ i, i < h - l → ((es.take h).drop l).getD i [] = es.getD (l + i) [] := fun i hi => by
    simp only [List.getD_eq_getElem?_getD, List.getElem?_drop, List.getElem?_take]
    rw [if_pos (by omega)]
  have := Rel.sl (K := K) st' ((es.take h).drop l) b cap' sz (fun i j => val (l + i) j) hst' (by rw [hlen]; exact hf') (by omega)
    (fun i hi => by rw [hget i (by omega)]; exact hz _ (by omega))
    (fun i j hi hj => by
      rcases hb with rfl | rfl
      · rw [Addr.add_add, show l * sz + (i * sz + j) = (l + i) * sz + j from by rw [Nat.add_mul, Nat.add_assoc]]
        exact hK _ _ (by omega) hj
      · omega)
    (fun i j hi hj => by rw [hget i (by omega)]; exact hr _ _ (by omega) hj)
  rwa [hlen] at this

theorem addr_case {m l : Nat} {a : Addr} {z : Nat} (b : Addr) (hb : b = if m = l then a else a.add (l * z)) (h : Nat) (hm : h ≤ m) (hl : l ≤ h) : b = a.add (l * z) ∨ h = l := by
  split at hb
  · right; omega
  · left; exact hb

theorem sl_main {es : List (List DV)} {v : Value} {l q z : Nat} {t e : TypeId} {lo hi : Option AV} {vl vh : Option Value} (ht : P.underlying t = some (.slice e)) (hz : tsz P e = some z)
    (hsz : szOk z es = true) (hr : Rel K (.sl .any es) v) (hb : bdA es.length lo hi = some (l, q)) (hl : RelO K ι n lo vl) (hh : RelO K ι n hi vh) (w : World) :
    ∃ u, (Instr.sliceAt t v vl vh none).run P w = .ok u w ∧ Rel K (.sl .any ((es.take q).drop l)) u := by
  cases hr with
  | slnil =>
    obtain ⟨hr, h1, h2⟩ := bounds_sound (P := P) (K := K) (ι := ι) (n := n) (isSlice := true) (cap := 0) hb (Nat.le_refl _) (fun _ => rfl) hl hh w
    simp only [List.length_nil, Nat.le_zero_eq] at h2 hr
    subst h2
    obtain rfl : l = 0 := by omega
    refine ⟨.slice none 0 0, ?_, by simpa using Rel.slnil _⟩
    simp [Instr.sliceAt, Instr.slice, run_underlying ht, hr, run_sizeOf' hz]
  | sl _ _ a cap sz val hst hf hcap hzz hK hrr =>
    obtain ⟨hr, h1, h2⟩ := bounds_sound (P := P) (K := K) (ι := ι) (n := n) (isSlice := true) hb hcap (by simp) hl hh w
    refine ⟨.slice (some (if cap = l then a else a.add (l * z))) (q - l) (cap - l), ?_, ?_⟩
    · simp only [Instr.sliceAt, Instr.slice, Sem.run_bind, run_underlying ht, Result.andThen_ok, hr, run_sizeOf' hz, Sem.run_pure]
      congr 2
      split <;> rfl
    · by_cases hes : es.length = 0
      · obtain rfl : es = [] := List.length_eq_zero_iff.1 hes
        obtain rfl : q = 0 := by simpa using h2
        obtain rfl : l = 0 := by omega
        have := Rel.sl (K := K) .any [] (if cap = 0 then a else a.add (0 * z)) cap 0 (fun _ _ => undef) (by simp) (by simp) (by simp) (by simp) (by simp) (by simp)
        simpa using this
      · have h1' := hzz 0 (by omega)
        have h2' := szOk_get hsz (i := 0) (by omega)
        obtain rfl : sz = z := by omega
        exact sl_cut (st' := .any) (by simp) (by simp) h1 h2 (by omega) hzz hK hrr _ (addr_case (m := cap) _ rfl q (by omega) h1)

theorem sl_main3 {es : List (List DV)} {v : Value} {z : Nat} {l h m : Int} {kh km : IntKind} {t e : TypeId} {lo : Option AV} {vl : Option Value} (ht : P.underlying t = some (.slice e)) (hz : tsz P e = some z)
    (hsz : szOk z es = true) (hr : Rel K (.sl .any es) v) (hlo : (match lo with | none => some (0 : Int) | some x => asI x) = some l) (hl : RelO K ι n lo vl) (hb : 0 ≤ l ∧ l ≤ h ∧ h ≤ m ∧ m ≤ es.length) (w : World) :
    ∃ u, (Instr.sliceAt t v vl (some (.int kh h)) (some (.int km m))).run P w = .ok u w ∧ Rel K (.sl (if h = m then .full else .any) ((es.take h.toNat).drop l.toNat)) u := by
  obtain ⟨b0, b1, b2, b3⟩ := hb
  have hbounds : ∀ cap : Nat, es.length ≤ cap → (Instr.sliceBounds true es.length cap vl (some (.int kh h)) (some (.int km m))).run P w = .ok (l.toNat, h.toNat, m.toNat) w := by
    intro cap hcap
    cases hl with
    | none =>
      simp only [Option.some.injEq] at hlo; subst hlo
      simp [Instr.sliceBounds, run_sliceBound (P := P) w km m cap _ (by omega) (by omega), run_sliceBound (P := P) w kh h m.toNat _ (by omega) (by omega)]
    | some x u hx =>
      obtain ⟨k, rfl⟩ := asI_some hlo
      have hg := hx.get
      cases hg
      simp [Instr.sliceBounds, run_sliceBound (P := P) w km m cap _ (by omega) (by omega), run_sliceBound (P := P) w kh h m.toNat _ (by omega) (by omega), run_sliceBound (P := P) w k l h.toNat _ b0 (by omega)]
  have hst : (if h = m then St.full else St.any) ≠ .nil := by split <;> simp
  have hfu : (if h = m then St.full else St.any) = .full → m.toNat - l.toNat = h.toNat - l.toNat := by
    split
    · rename_i e; intro _; omega
    · simp
  cases hr with
  | slnil =>
    simp only [List.length_nil] at b3
    have e1 : l = 0 := by omega
    have e2 : h = 0 := by omega
    have e3 : m = 0 := by omega
    subst e1 e2 e3
    refine ⟨.slice none 0 0, ?_, by simpa using Rel.slnil _⟩
    have := hbounds 0 (by simp)
    simp only [List.length_nil] at this
    simp [Instr.sliceAt, Instr.slice, run_underlying ht, this, run_sizeOf' hz]
  | sl _ _ a cap sz val hst0 hf hcap hzz hK hrr =>
    refine ⟨.slice (some (if m.toNat = l.toNat then a else a.add (l.toNat * z))) (h.toNat - l.toNat) (m.toNat - l.toNat), ?_, ?_⟩
    · simp only [Instr.sliceAt, Instr.slice, Sem.run_bind, run_underlying ht, Result.andThen_ok, hbounds cap hcap, run_sizeOf' hz, Sem.run_pure]
      congr 2
      split <;> rfl
    · by_cases hes : es.length = 0
      · obtain rfl : es = [] := List.length_eq_zero_iff.1 hes
        simp only [List.length_nil] at b3
        have e1 : l = 0 := by omega
        have e2 : h = 0 := by omega
        have e3 : m = 0 := by omega
        subst e1 e2 e3
        have := Rel.sl (K := K) .full [] a 0 0 (fun _ _ => undef) (by simp) (by simp) (by simp) (by simp) (by simp) (by simp)
        simpa using this
      · have h1' := hzz 0 (by omega)
        have h2' := szOk_get hsz (i := 0) (by omega)
        obtain rfl : sz = z := by omega
        exact sl_cut hst hfu (by omega) (by omega) (by omega) hzz hK hrr _ (addr_case (m := m.toNat) _ rfl h.toNat (by omega) (by omega))

theorem slA_sound {t : TypeId} {x r : AV} {lo hi mx : Option AV} {vx : Value} {vl vh vm : Option Value} (h : slA P t x lo hi mx = some r) (hx : RelA K ι n x vx)
    (hl : RelO K ι n lo vl) (hh : RelO K ι n hi vh) (hm : RelO K ι n mx vm) (w : World) : ∃ u, (Instr.sliceAt t vx vl vh vm).run P w = .ok u w ∧ RelA K ι n r u := by
  unfold slA at h
  split at h
  · rename_i hk
    cases hm
    have ht := tk_string hk
    split at h
    · rename_i s
      have hg := hx.get
      cases hg
      split at h
      · rename_i l q hb
        simp only [Option.some.injEq] at h; subst h
        have hsz : (⟨s.toArray⟩ : ByteArray).size = s.length := by simp [ByteArray.size]
        obtain ⟨hr, _, _⟩ := bounds_sound (P := P) (K := K) (ι := ι) (n := n) (isSlice := false) hb (Nat.le_refl _) (fun _ => rfl) hl hh w
        refine ⟨.string ((⟨s.toArray⟩ : ByteArray).extract l q), ?_, ?_⟩
        · simp [Instr.sliceAt, Instr.slice, run_underlying ht, hsz, hr]
        · rw [extract_str]; exact .d _ _ (.str _)
      · contradiction
    · contradiction
  · rename_i e hk
    cases hm
    have ht := tk_slice hk
    split at h
    · rename_i z hz
      split at h
      · split at h
        · rename_i hsz
          split at h
          · rename_i l q hb
            simp only [Option.some.injEq] at h; subst h
            obtain ⟨u, hu, hu2⟩ := sl_main ht hz hsz hx.get.any hb hl hh w
            exact ⟨u, hu, .d _ _ hu2⟩
          · contradiction
        · contradiction
      · split at h
        · rename_i hsz
          split at h
          · rename_i l q hb
            simp only [Option.some.injEq] at h; subst h
            cases hx with
            | tsl _ _ _ hx' _ _ _ =>
              obtain ⟨u, hu, hu2⟩ := sl_main ht hz hsz hx' hb hl hh w
              exact ⟨u, hu, .d _ _ hu2⟩
          · contradiction
        · contradiction
      · rename_i id off len cap
        split at h
        · rename_i hlc
          split at h
          · rename_i l q hb
            simp only [Option.some.injEq] at h; subst h
            cases hx with
            | bsl _ _ _ _ hid =>
              obtain ⟨hr, h1, h2⟩ := bounds_sound (P := P) (K := K) (ι := ι) (n := n) (isSlice := true) hb hlc (by simp) hl hh w
              refine ⟨.slice (some (if cap = l then ⟨(ι id).block, off, none⟩ else (⟨(ι id).block, off, none⟩ : Addr).add (l * z))) (q - l) (cap - l), ?_, ?_⟩
              · simp only [Instr.sliceAt, Instr.slice, Sem.run_bind, run_underlying ht, Result.andThen_ok, hr, run_sizeOf' hz, Sem.run_pure]
                congr 2
                split <;> rfl
              · split
                · exact .bsl _ _ _ _ hid
                · rw [Addr.add_mk]; exact .bsl _ _ _ _ hid
          · contradiction
        · contradiction
      · contradiction
    · contradiction
  · rename_i e m hk
    have ht := tk_slice hk
    split at h
    · rename_i z es jm jh jl hz hes hjm hjh hjl
      split at h
      · rename_i hsz
        split at h
        · rename_i hb
          simp only [Option.some.injEq] at h; subst h
          obtain ⟨km, rfl⟩ := asI_some hjm
          cases hm with
          | some _ vm hm =>
            have hg := hm.get
            cases hg
            cases hh with
            | none => simp at hjh
            | some y vh hh =>
              obtain ⟨kh, rfl⟩ := asI_some hjh
              have hg := hh.get
              cases hg
              have hre : Rel K (.sl .any es) vx := by
                split at hes
                · simp only [Option.some.injEq] at hes; subst hes; exact hx.get.any
                · simp only [Option.some.injEq] at hes; subst hes
                  cases hx with
                  | tsl _ _ _ hx' _ _ _ => exact hx'
                · contradiction
              obtain ⟨u, hu, hu2⟩ := sl_main3 ht hz hsz hre hjl hl hb w
              exact ⟨u, hu, .d _ _ hu2⟩
        · contradiction
      · contradiction
    · contradiction
  · contradiction

/-! The others -/
def exA (x : AV) (i : Nat) : Option AV :=
  match x with
  | .d (.tup xs) => match xs[i]? with | some y => some (.d y) | none => none
  | .tup xs => xs[i]?
  | _ => none

theorem exA_sound {x r : AV} {i : Nat} {v : Value} (h : exA x i = some r) (hx : RelA K ι n x v) (w : World) : ∃ u, (Instr.extract v i).run P w = .ok u w ∧ RelA K ι n r u := by
  unfold exA at h
  split at h
  · rename_i xs
    split at h
    · rename_i y hy
      simp only [Option.some.injEq] at h; subst h
      have hg := hx.get
      cases hg with
      | tup _ vs hl hr =>
        have hlt : i < xs.length := by
          by_cases hc : i < xs.length
          · exact hc
          · rw [List.getElem?_eq_none (by omega)] at hy; contradiction
        have := hr i hlt
        rw [List.getD_eq_getElem?_getD, hy] at this
        refine ⟨vs.getD i undef, ?_, .d _ _ this⟩
        have hv : vs[i]? = some (vs.getD i undef) := by simp [Array.getD, hl, hlt]
        simp only [Instr.extract]
        rw [hv]
        rfl
    · contradiction
  · rename_i xs
    cases hx with
    | tup _ vs hl hr =>
      have hlt : i < xs.length := by
        by_cases hc : i < xs.length
        · exact hc
        · rw [List.getElem?_eq_none (by omega)] at h; contradiction
      have := hr i hlt
      rw [List.getD_eq_getElem?_getD, h] at this
      refine ⟨vs.getD i undef, ?_, this⟩
      have hv : vs[i]? = some (vs.getD i undef) := by simp [Array.getD, hl, hlt]
      simp only [Instr.extract]
      rw [hv]
      rfl
  · contradiction

def lenA (x : AV) : Option AV :=
  match x with
  | .d (.str s) => some (.d (.int .i64 s.length))
  | .d (.sl _ es) => some (.d (.int .i64 es.length))
  | .tsl _ es => some (.d (.int .i64 es.length))
  | .bsl _ _ len _ => some (.d (.int .i64 len))
  | _ => none

/-- The kind of type that 'len' takes at such a value. -/
def lenK (x : AV) : TK → Bool
  | .string => match x with | .d (.str _) => true | _ => false
  | .slice _ => match x with | .d (.str _) => false | _ => true
  | _ => false

theorem lenA_sound {t : TypeId} {k : TK} {x r : AV} {v : Value} (hk : tk P t = some k) (hkk : lenK x k = true) (h : lenA x = some r) (hx : RelA K ι n x v) (ty : TypeId) (w : World) :
    ∃ u, (Builtin.len_ #[t] ty #[v]).run P w = .ok u w ∧ RelA K ι n r u := by
  unfold lenA at h
  split at h
  · rename_i s
    cases k <;> simp [lenK] at hkk
    simp only [Option.some.injEq] at h; subst h
    have hg := hx.get
    cases hg
    have hs : (⟨s.toArray⟩ : ByteArray).size = s.length := by simp [ByteArray.size]
    refine ⟨goInt (⟨s.toArray⟩ : ByteArray).size, by simp [Builtin.len_, run_underlying (tk_string hk)], ?_⟩
    rw [hs]
    exact .d _ _ (.int _ _)
  · rename_i st es
    cases k <;> simp [lenK] at hkk
    simp only [Option.some.injEq] at h; subst h
    have hg := hx.get
    cases hg with
    | slnil => exact ⟨_, by simp [Builtin.len_, run_underlying (tk_slice hk)]; rfl, .d _ _ (.int _ _)⟩
    | sl => exact ⟨_, by simp [Builtin.len_, run_underlying (tk_slice hk)]; rfl, .d _ _ (.int _ _)⟩
  · rename_i tok es
    cases k <;> simp [lenK] at hkk
    simp only [Option.some.injEq] at h; subst h
    cases hx with
    | tsl _ _ _ hg _ _ _ =>
      cases hg with
      | slnil => exact ⟨_, by simp [Builtin.len_, run_underlying (tk_slice hk)]; rfl, .d _ _ (.int _ _)⟩
      | sl => exact ⟨_, by simp [Builtin.len_, run_underlying (tk_slice hk)]; rfl, .d _ _ (.int _ _)⟩
  · rename_i id off len cap
    cases k <;> simp [lenK] at hkk
    simp only [Option.some.injEq] at h; subst h
    cases hx with
    | bsl _ _ _ _ hid => exact ⟨_, by simp [Builtin.len_, run_underlying (tk_slice hk)]; rfl, .d _ _ (.int _ _)⟩
  · contradiction

def pkA (c a b : AV) : Option AV :=
  match c with
  | .d (.bool t) => some (if t then a else b)
  | _ => none

def nckA (x : AV) : Option AV :=
  match x with
  | .ptr id off => some (.ptr id off)
  | .d (.eptr cs off) => some (.d (.eptr cs off))
  | .d (.func f) => some (.d (.func f))
  | .clo f cs => some (.clo f cs)
  | _ => none

def unA (op : UnOp) (x : AV) : Option AV :=
  match op, x with
  | .not, .d (.bool b) => some (.d (.bool (!b)))
  | .neg, .d (.int k m) => some (.d (.int k (k.wrap (0 - m))))
  | _, _ => none

theorem unA_sound {op : UnOp} {x r : AV} {v : Value} (h : unA op x = some r) (hx : RelA K ι n x v) (w : World) : ∃ u, (Op.unary op v).run P w = .ok u w ∧ RelA K ι n r u := by
  unfold unA at h
  split at h
  · simp only [Option.some.injEq] at h; subst h
    have hg := hx.get
    cases hg
    exact ⟨_, by simp [Op.unary], .d _ _ (.bool _)⟩
  · simp only [Option.some.injEq] at h; subst h
    have hg := hx.get
    cases hg
    exact ⟨_, by simp only [Op.unary, Op.intArith]; rfl, .d _ _ (.int _ _)⟩
  · contradiction

/-- The bytes that the elements of a []byte are. -/
def bytesOf : List (List DV) → Option (List UInt8)
  | [] => some []
  | [.int .u8 m] :: r => match bytesOf r with | some l => some (UInt8.ofNat m.toNat :: l) | none => none
  | _ => none

def byteEl (b : UInt8) : List DV := [.int .u8 (b.toNat : Nat)]

theorem bytesOf_map (l : List UInt8) : bytesOf (l.map byteEl) = some l := by
  induction l with
  | nil => rfl
  | cons b r ih => simp [bytesOf, byteEl, ih]

theorem bytesOf_append {a b : List (List DV)} {x y : List UInt8} (h : bytesOf a = some x) (h' : bytesOf b = some y) : bytesOf (a ++ b) = some (x ++ y) := by
  induction a generalizing x with
  | nil => simp [bytesOf] at h; subst h; simpa using h'
  | cons c r ih =>
    unfold bytesOf at h
    split at h <;> rename_i hc
    · cases hc
    · cases hc
      split at h
      · rename_i l hl
        simp only [Option.some.injEq] at h; subst h
        simp [bytesOf, ih hl]
      · contradiction
    · contradiction

theorem bytesOf_cons {c : List DV} {r : List (List DV)} {x : List UInt8} (h : bytesOf (c :: r) = some x) :
    ∃ m l, c = [.int .u8 m] ∧ bytesOf r = some l ∧ x = UInt8.ofNat m.toNat :: l := by
  unfold bytesOf at h
  split at h <;> rename_i hc
  · cases hc
  · cases hc
    split at h
    · rename_i l hl
      simp only [Option.some.injEq] at h
      exact ⟨_, l, rfl, hl, h.symm⟩
    · contradiction
  · contradiction

theorem run_forIn_b (f : Value → ByteArray → Sem (ForInStep ByteArray)) (hf : ∀ m s, f (.int .u8 m) s = pure (.yield (s.push (UInt8.ofNat m.toNat)))) (w : World) :
    ∀ (es : List (List DV)) (x : List UInt8) (vs : List Value) (s : ByteArray), bytesOf es = some x → vs.length = es.length →
    (∀ i, i < es.length → ∀ j, (es.getD i []).getD j .nilp = .int .u8 j ∨ True) → (∀ i m, i < es.length → es.getD i [] = [.int .u8 m] → vs.getD i undef = .int .u8 m) →
    (forIn vs s f).run P w = .ok ⟨(s.data.toList ++ x).toArray⟩ w := by
  intro es
  induction es with
  | nil =>
    intro x vs s h hl _ _
    simp [bytesOf] at h; subst h
    obtain rfl : vs = [] := List.length_eq_zero_iff.1 hl
    cases s
    simp
  | cons c r ih =>
    intro x vs s h hl _ hv
    obtain ⟨m, l, rfl, hl2, rfl⟩ := bytesOf_cons h
    cases vs with
    | nil => simp at hl
    | cons v vs =>
      have h0 := hv 0 m (by simp) rfl
      simp at h0; subst h0
      simp only [List.forIn_cons, hf, Sem.run_bind, Sem.run_pure, Result.andThen_ok]
      rw [ih l vs (s.push (UInt8.ofNat m.toNat)) hl2 (by simpa using hl) (fun _ _ _ => .inr trivial) (fun i m hi he => by simpa using hv (i + 1) m (by simpa using hi) (by simpa using he))]
      congr 2
      cases s
      simp [ByteArray.push]

def cvB (k : Option TK) (es : List (List DV)) : Option AV :=
  match k with
  | some (.int .u8) => match bytesOf es with | some l => some (.d (.str l)) | none => none
  | _ => none

theorem cvB_some {k : Option TK} {es : List (List DV)} {r : AV} (h : cvB k es = some r) : k = some (.int .u8) ∧ ∃ l, bytesOf es = some l ∧ r = .d (.str l) := by
  unfold cvB at h
  split at h
  · split at h
    · rename_i l hl
      simp only [Option.some.injEq] at h
      exact ⟨rfl, l, hl, h.symm⟩
    · contradiction
  · contradiction

def cvA (P : Program) (src dst : TypeId) (x : AV) : Option AV :=
  match tk P src, tk P dst, x with
  | some (.int _), some (.int k), .d (.int _ m) => some (.d (.int k (k.wrap m)))
  | some .string, some .string, .d (.str s) => some (.d (.str s))
  | some (.slice e), some .string, .d (.sl _ es) => cvB (tk P e) es
  | some (.slice e), some .string, .tsl _ es => cvB (tk P e) es
  | _, _, _ => none

theorem Rel.int_inv {k : IntKind} {m : Int} {v : Value} (h : Rel K (.int k m) v) : v = .int k m := by cases h; rfl

theorem bytes_run {src dst e : TypeId} (hs : P.underlying src = some (.slice e)) (hd : P.underlying dst = some .string) (he : P.underlying e = some (.int .u8)) {es : List (List DV)} {l : List UInt8} {v : Value}
    (hr : Rel K (.sl .any es) v) (hb : bytesOf es = some l) {w : World} (hw : Agree K w) : (convert src dst v).run P w = .ok (.string ⟨l.toArray⟩) w := by
  cases hr with
  | slnil =>
    simp [bytesOf] at hb; subst hb
    simp [convert, run_underlying hs, run_underlying hd, run_underlying he, Conv.bytesToString]
    rfl
  | sl _ _ a cap sz val hst hf hc hz hK hrr =>
    have hval : ∀ i m, i < es.length → es.getD i [] = [.int .u8 m] → sz = 1 ∧ val i 0 = .int .u8 m := fun i m hi he => by
      have h1 := hz i hi
      rw [he] at h1
      simp at h1
      have h2 := hrr i 0 hi (by omega)
      rw [he] at h2
      exact ⟨by omega, h2.int_inv⟩
    by_cases hes : es.length = 0
    · obtain rfl : es = [] := List.length_eq_zero_iff.1 hes
      simp [bytesOf] at hb; subst hb
      simp [convert, run_underlying hs, run_underlying hd, run_underlying he, Conv.bytesToString, loadCells, loadCellsFrom]
      rfl
    · have hall : ∀ (es : List (List DV)) (l : List UInt8), bytesOf es = some l → ∀ i, i < es.length → ∃ m, es.getD i [] = [.int .u8 m] := by
        intro es
        induction es with
        | nil => intro l _ i hi; simp at hi
        | cons c r ih =>
          intro l hb i hi
          obtain ⟨m, l', rfl, hl2, rfl⟩ := bytesOf_cons hb
          cases i with
          | zero => exact ⟨m, rfl⟩
          | succ i => simpa using ih l' hl2 i (by simpa using hi)
      have hone : sz = 1 := by
        obtain ⟨m, hm⟩ := hall es l hb 0 (by omega)
        exact (hval 0 m (by omega) hm).1
      subst hone
      have hload := run_loadCells (P := P) w a es.length (fun i => val i 0) (fun j hj => hw _ _ (by have := hK j 0 hj (by omega); simpa using this))
      have hfor := run_forIn_b (P := P) (fun c s => match c with
          | .int .u8 m => pure (.yield (s.push (UInt8.ofNat m.toNat)))
          | _ => stuck "bytesToString: byte expected") (fun _ _ => rfl) w es l ((List.range es.length).map fun i => val i 0) .empty hb (by simp) (fun _ _ _ => .inr trivial)
          (fun i m hi he => by simp [List.getD_eq_getElem?_getD, hi, (hval i m hi he).2])
      simp only [convert, Sem.run_bind, run_underlying hs, run_underlying hd, run_underlying he, Result.andThen_ok, Conv.bytesToString, hload]
      rw [← Array.forIn_toList]
      simp only []
      first
        | (refine Eq.trans (congrArg (fun r : Result ByteArray => r.andThen fun a w' => (pure (Value.string a) : Sem Value).run P w') hfor) ?_; simp [ByteArray.empty, ByteArray.emptyWithCapacity]; done)
        | (refine Eq.trans (congrArg (fun r : Result ByteArray => r.andThen fun a w' => (pure (Value.string a) : Sem Value).run P w') hfor) ?_; simp [ByteArray.empty, ByteArray.emptyWithCapacity]; rfl)

theorem cvA_sound {src dst : TypeId} {x r : AV} {v : Value} (h : cvA P src dst x = some r) (hx : RelA K ι n x v) {w : World} (hw : Agree K w) : ∃ u, (convert src dst v).run P w = .ok u w ∧ RelA K ι n r u := by
  unfold cvA at h
  split at h
  · rename_i k0 k k1 m hs hd
    simp only [Option.some.injEq] at h; subst h
    have hg := hx.get
    cases hg
    refine ⟨.int k (k.wrap m), ?_, .d _ _ (.int _ _)⟩
    simp [convert, run_underlying (tk_int hs), run_underlying (tk_int hd), Conv.intToInt]
  · rename_i s hs hd
    simp only [Option.some.injEq] at h; subst h
    have hg := hx.get
    cases hg
    exact ⟨_, by simp [convert, run_underlying (tk_string hs), run_underlying (tk_string hd)], .d _ _ (.str _)⟩
  · rename_i e st es hs hd
    obtain ⟨he, l, hl, rfl⟩ := cvB_some h
    exact ⟨_, bytes_run (tk_slice hs) (tk_string hd) (tk_int he) hx.get.any hl hw, .d _ _ (.str _)⟩
  · rename_i e st es hs hd
    obtain ⟨he, l, hl, rfl⟩ := cvB_some h
    cases hx with
    | tsl _ _ _ hg _ _ _ => exact ⟨_, bytes_run (tk_slice hs) (tk_string hd) (tk_int he) hg hl hw, .d _ _ (.str _)⟩
  · contradiction

def mfA (fn : Fn) (first : List AV) (caps : List AV) : Option AV :=
  match fn, first with
  | .func f, [] => match caps with | [] => some (.d (.func f)) | _ => some (.clo f caps)
  | _, _ => none

end
end Go.Proofs.YtjmldlknegbimaaDoor.Sx
