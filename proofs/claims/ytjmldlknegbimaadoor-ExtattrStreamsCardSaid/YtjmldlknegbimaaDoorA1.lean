/- Abstract values: data by value, boxes and append-tokens by number; what it means that a machine value is such a value. Own library, part 1. -/
import Derived.Calls
import Derived.Orders
import Derived.Below
import Derived.KernelRfl
set_option linter.unusedVariables false
set_option linter.unusedSimpArgs false
namespace Go.Proofs.YtjmldlknegbimaaDoor.Sx
open Go Go.RowKit

inductive St where
  | any | nil | full
  deriving DecidableEq, Repr

inductive DV where
  | bool (b : Bool)
  | int (k : IntKind) (n : Int)
  | str (s : List UInt8)
  | nilp | nilf | nili
  | func (f : FuncId)
  | ifc (t : TypeId) (x : DV)
  | sl (st : St) (es : List (List DV))
  | agg (cs : List DV)
  | tup (xs : List DV)
  | eptr (cs : List DV) (off : Nat)

instance : Inhabited DV := ⟨.nilp⟩

abbrev Mem := Addr → Option Value

def Mem.le (K K' : Mem) : Prop := ∀ a v, K a = some v → K' a = some v
theorem Mem.le_refl (K : Mem) : Mem.le K K := fun _ _ h => h
theorem Mem.le_trans {K K' K'' : Mem} (h : Mem.le K K') (h' : Mem.le K' K'') : Mem.le K K'' := fun a v e => h' a v (h a v e)

inductive Rel (K : Mem) : DV → Value → Prop
  | bool (b : Bool) : Rel K (.bool b) (.bool b)
  | int (k : IntKind) (n : Int) : Rel K (.int k n) (.int k n)
  | str (s : List UInt8) : Rel K (.str s) (.string ⟨s.toArray⟩)
  | nilp : Rel K .nilp (.pointer none)
  | nilf : Rel K .nilf .nilFunc
  | nili : Rel K .nili .nilIface
  | func (f : FuncId) : Rel K (.func f) (.func (.func f) #[] #[])
  | ifc (t : TypeId) (x : DV) (v : Value) (h : Rel K x v) : Rel K (.ifc t x) (.iface t v)
  | slnil (st : St) : Rel K (.sl st []) (.slice none 0 0)
  | sl (st : St) (es : List (List DV)) (a : Addr) (cap sz : Nat) (val : Nat → Nat → Value) (hst : st ≠ .nil) (hf : st = .full → cap = es.length)
      (hc : es.length ≤ cap) (hz : ∀ i, i < es.length → (es.getD i []).length = sz)
      (hK : ∀ i j, i < es.length → j < sz → K (a.add (i * sz + j)) = some (val i j))
      (hr : ∀ i j, i < es.length → j < sz → Rel K ((es.getD i []).getD j .nilp) (val i j)) : Rel K (.sl st es) (.slice (some a) es.length cap)
  | agg (cs : List DV) (vs : Array Value) (hl : vs.size = cs.length) (h : ∀ i, i < cs.length → Rel K (cs.getD i .nilp) (vs.getD i undef)) : Rel K (.agg cs) (.agg vs)
  | tup (cs : List DV) (vs : Array Value) (hl : vs.size = cs.length) (h : ∀ i, i < cs.length → Rel K (cs.getD i .nilp) (vs.getD i undef)) : Rel K (.tup cs) (.tuple vs)
  | eptr (cs : List DV) (off : Nat) (a : Addr) (val : Nat → Value)
      (hK : ∀ j, j < cs.length → K (a.add j) = some (val j))
      (hr : ∀ j, j < cs.length → Rel K (cs.getD j .nilp) (val j)) : Rel K (.eptr cs off) (.pointer (some (a.add off)))

theorem Rel.mono {K K' : Mem} (h : Mem.le K K') {d : DV} {v : Value} (hr : Rel K d v) : Rel K' d v := by
  induction hr with
  | bool b => exact .bool b
  | int k n => exact .int k n
  | str s => exact .str s
  | nilp => exact .nilp
  | nilf => exact .nilf
  | nili => exact .nili
  | func f => exact .func f
  | ifc t x v _ ih => exact .ifc t x v ih
  | slnil st => exact .slnil st
  | sl st es a cap sz val hst hf hc hz hK _ ih => exact .sl st es a cap sz val hst hf hc hz (fun i j hi hj => h _ _ (hK i j hi hj)) ih
  | agg cs vs hl _ ih => exact .agg cs vs hl ih
  | tup cs vs hl _ ih => exact .tup cs vs hl ih
  | eptr cs off a val hK _ ih => exact .eptr cs off a val (fun j hj => h _ _ (hK j hj)) ih

/- What a result, or an argument, is handed on as: of a slice only its elements count. -/
mutual
def normD : DV → DV
  | .sl _ es => .sl .any es
  | .agg cs => .agg (normDL cs)
  | .tup cs => .tup (normDL cs)
  | .bool b => .bool b
  | .int k n => .int k n
  | .str s => .str s
  | .nilp => .nilp
  | .nilf => .nilf
  | .nili => .nili
  | .func f => .func f
  | .ifc t x => .ifc t x
  | .eptr cs off => .eptr cs off
def normDL : List DV → List DV
  | [] => []
  | x :: r => normD x :: normDL r
 end

theorem normDL_map (l : List DV) : normDL l = l.map normD := by
  induction l with
  | nil => rfl
  | cons x r ih => simp [normDL, ih]

theorem Rel.any {K : Mem} {st : St} {es : List (List DV)} {v : Value} (h : Rel K (.sl st es) v) : Rel K (.sl .any es) v := by
  cases h with
  | slnil => exact .slnil _
  | sl _ _ a cap sz val hst hf hc hz hK hr => exact .sl _ _ a cap sz val (by simp) (by simp) hc hz hK hr

theorem getD_map' {α β : Type} (f : α → β) (l : List α) (i : Nat) (d : α) (e : β) (h : i < l.length) : (l.map f).getD i e = f (l.getD i d) := by
  simp [List.getD_eq_getElem?_getD, h]

theorem Rel.norm {K : Mem} {d : DV} {v : Value} (hr : Rel K d v) : Rel K (normD d) v := by
  induction hr with
  | slnil st => exact .slnil _
  | sl st es a cap sz val hst hf hc hz hK hr ih => exact (Rel.sl st es a cap sz val hst hf hc hz hK hr).any
  | agg cs vs hl h ih =>
    rw [normD, normDL_map]
    refine .agg _ _ (by simpa using hl) fun i hi => ?_
    rw [getD_map' normD cs i .nilp _ (by simpa using hi)]
    exact ih i (by simpa using hi)
  | tup cs vs hl h ih =>
    rw [normD, normDL_map]
    refine .tup _ _ (by simpa using hl) fun i hi => ?_
    rw [getD_map' normD cs i .nilp _ (by simpa using hi)]
    exact ih i (by simpa using hi)
  | bool b => exact .bool b
  | int k n => exact .int k n
  | str s => exact .str s
  | nilp => exact .nilp
  | nilf => exact .nilf
  | nili => exact .nili
  | func f => exact .func f
  | ifc t x v h _ => exact .ifc t x v h
  | eptr cs off a val hK hr _ => exact .eptr cs off a val hK hr

/-- Values of the executor. -/
inductive AV where
  | d (x : DV)
  | ptr (id off : Nat)
  | tsl (tok : Nat) (es : List (List DV))
  | bsl (id off len cap : Nat)
  | clo (f : FuncId) (caps : List AV)
  | mp (id : Nat)
  | agg (cs : List AV)
  | tup (cs : List AV)
  | junk

instance : Inhabited AV := ⟨.junk⟩

/-- Where a box or a token lies. -/
structure Pl where
  block : Nat
  cur : Value
  len : Nat
  tb : Nat

inductive RelA (K : Mem) (ι : Nat → Pl) (n : Nat) : AV → Value → Prop
  | d (x : DV) (v : Value) (h : Rel K x v) : RelA K ι n (.d x) v
  | ptr (id off : Nat) (h : id < n) : RelA K ι n (.ptr id off) (.pointer (some ⟨(ι id).block, off, none⟩))
  | tsl (tok : Nat) (es : List (List DV)) (v : Value) (h : Rel K (.sl .any es) v) (ht : tok < n) (hl : es.length ≤ (ι tok).len)
      (hc : es.length = (ι tok).len → v = (ι tok).cur) : RelA K ι n (.tsl tok es) v
  | bsl (id off len cap : Nat) (h : id < n) : RelA K ι n (.bsl id off len cap) (.slice (some ⟨(ι id).block, off, none⟩) len cap)
  | clo (f : FuncId) (caps : List AV) (vs : Array Value) (hl : vs.size = caps.length) (h : ∀ i, i < caps.length → RelA K ι n (caps.getD i .junk) (vs.getD i undef)) :
      RelA K ι n (.clo f caps) (.func (.func f) #[] vs)
  | agg (cs : List AV) (vs : Array Value) (hl : vs.size = cs.length) (h : ∀ i, i < cs.length → RelA K ι n (cs.getD i .junk) (vs.getD i undef)) : RelA K ι n (.agg cs) (.agg vs)
  | tup (cs : List AV) (vs : Array Value) (hl : vs.size = cs.length) (h : ∀ i, i < cs.length → RelA K ι n (cs.getD i .junk) (vs.getD i undef)) : RelA K ι n (.tup cs) (.tuple vs)
  | mp (id : Nat) (h : id < n) : RelA K ι n (.mp id) (.map (some (ι id).block))
  | junk (v : Value) : RelA K ι n .junk v

/-- The later places keep what the earlier ones said. -/
def Pls.le (n : Nat) (ι ι' : Nat → Pl) : Prop :=
  ∀ i, i < n → (ι' i).block = (ι i).block ∧ (ι i).len ≤ (ι' i).len ∧ ((ι' i).len = (ι i).len → (ι' i).cur = (ι i).cur)

theorem Pls.le_refl (n : Nat) (ι : Nat → Pl) : Pls.le n ι ι := fun _ _ => ⟨rfl, Nat.le_refl _, fun _ => rfl⟩
theorem Pls.le_trans {n n' : Nat} {ι ι' ι'' : Nat → Pl} (hn : n ≤ n') (h : Pls.le n ι ι') (h' : Pls.le n' ι' ι'') : Pls.le n ι ι'' := fun i hi => by
  obtain ⟨b, l, c⟩ := h i hi
  obtain ⟨b', l', c'⟩ := h' i (by omega)
  refine ⟨b'.trans b, by omega, fun e => ?_⟩
  rw [c' (by omega), c (by omega)]

theorem RelA.mono {K K' : Mem} {ι ι' : Nat → Pl} {n n' : Nat} (hK : Mem.le K K') (hn : n ≤ n') (hι : Pls.le n ι ι') {x : AV} {v : Value} (h : RelA K ι n x v) :
    RelA K' ι' n' x v := by
  induction h with
  | d x v h => exact .d _ _ (h.mono hK)
  | ptr id off h => rw [← (hι id h).1]; exact .ptr _ _ (by omega)
  | tsl tok es v h ht hl hc =>
    obtain ⟨b, l, c⟩ := hι tok ht
    exact .tsl _ _ _ (h.mono hK) (by omega) (by omega) (fun e => by rw [hc (by omega), c (by omega)])
  | bsl id off len cap h => rw [← (hι id h).1]; exact .bsl _ _ _ _ (by omega)
  | clo f caps vs hl _ ih => exact .clo _ _ _ hl ih
  | mp id h => rw [← (hι id h).1]; exact .mp _ (by omega)
  | agg cs vs hl _ ih => exact .agg _ _ hl ih
  | tup cs vs hl _ ih => exact .tup _ _ hl ih
  | junk v => exact .junk v

/- No number from m on stands in the value. -/
mutual
def AV.lt (m : Nat) : AV → Bool
  | .d _ => true
  | .ptr id _ => decide (id < m)
  | .tsl tok _ => decide (tok < m)
  | .bsl id _ _ _ => decide (id < m)
  | .clo _ cs => AV.ltL m cs
  | .mp id => decide (id < m)
  | .agg cs => AV.ltL m cs
  | .tup cs => AV.ltL m cs
  | .junk => true
def AV.ltL (m : Nat) : List AV → Bool
  | [] => true
  | x :: r => AV.lt m x && AV.ltL m r
 end

theorem AV.ltL_get {m : Nat} : ∀ {cs : List AV}, AV.ltL m cs = true → ∀ i, i < cs.length → AV.lt m (cs.getD i .junk) = true
  | [], _, i, hi => by simp at hi
  | x :: r, h, i, hi => by
    simp only [AV.ltL, Bool.and_eq_true] at h
    cases i with
    | zero => simpa using h.1
    | succ i => simpa using AV.ltL_get h.2 i (by simpa using hi)

theorem RelA.lt {K : Mem} {ι : Nat → Pl} {n m : Nat} {x : AV} {v : Value} (h : RelA K ι n x v) (hb : x.lt m = true) : RelA K ι m x v := by
  induction h with
  | d x v h => exact .d _ _ h
  | ptr id off h => exact .ptr _ _ (by simpa [AV.lt] using hb)
  | tsl tok es v h ht hl hc => exact .tsl _ _ _ h (by simpa [AV.lt] using hb) hl hc
  | bsl id off len cap h => exact .bsl _ _ _ _ (by simpa [AV.lt] using hb)
  | mp id h => exact .mp _ (by simpa [AV.lt] using hb)
  | clo f caps vs hl _ ih =>
    refine .clo _ _ _ hl fun i hi => ih i hi ?_
    rw [AV.lt] at hb
    exact AV.ltL_get hb i hi
  | agg caps vs hl _ ih =>
    refine .agg _ _ hl fun i hi => ih i hi ?_
    rw [AV.lt] at hb
    exact AV.ltL_get hb i hi
  | tup caps vs hl _ ih =>
    refine .tup _ _ hl fun i hi => ih i hi ?_
    rw [AV.lt] at hb
    exact AV.ltL_get hb i hi
  | junk v => exact .junk v

/-- An aggregate of plain data is plain data. -/
def AV.toD? : AV → Option DV
  | .d x => some x
  | _ => none

def allD : List AV → Option (List DV)
  | [] => some []
  | .d x :: r => (allD r).map (x :: ·)
  | _ => none

theorem allD_get : ∀ {cs : List AV} {ds : List DV}, allD cs = some ds → ds.length = cs.length ∧ ∀ i, i < cs.length → cs.getD i .junk = .d (ds.getD i .nilp)
  | [], ds, h => by simp [allD] at h; subst h; simp
  | .d x :: r, ds, h => by
    simp only [allD] at h
    cases hr : allD r with
    | none => rw [hr] at h; simp at h
    | some ds' =>
      rw [hr] at h; simp at h; subst h
      obtain ⟨h1, h2⟩ := allD_get hr
      refine ⟨by simp [h1], fun i hi => ?_⟩
      cases i with
      | zero => simp
      | succ i => simpa using h2 i (by simpa using hi)
  | .ptr .. :: r, ds, h => by simp [allD] at h
  | .tsl .. :: r, ds, h => by simp [allD] at h
  | .bsl .. :: r, ds, h => by simp [allD] at h
  | .clo .. :: r, ds, h => by simp [allD] at h
  | .mp .. :: r, ds, h => by simp [allD] at h
  | .agg .. :: r, ds, h => by simp [allD] at h
  | .tup .. :: r, ds, h => by simp [allD] at h
  | .junk :: r, ds, h => by simp [allD] at h

def mkAgg (cs : List AV) : AV := match allD cs with | some ds => .d (.agg ds) | none => .agg cs
def mkTup (cs : List AV) : AV := match allD cs with | some ds => .d (.tup ds) | none => .tup cs

theorem RelA.get {K : Mem} {ι : Nat → Pl} {n : Nat} {x : DV} {v : Value} (h : RelA K ι n (.d x) v) : Rel K x v := by
  cases h; assumption

theorem relA_mkAgg {K : Mem} {ι : Nat → Pl} {n : Nat} {cs : List AV} {vs : Array Value} (hl : vs.size = cs.length)
    (h : ∀ i, i < cs.length → RelA K ι n (cs.getD i .junk) (vs.getD i undef)) : RelA K ι n (mkAgg cs) (.agg vs) := by
  unfold mkAgg
  split
  · rename_i ds hd
    obtain ⟨h1, h2⟩ := allD_get hd
    refine .d _ _ (.agg _ _ (by omega) fun i hi => ?_)
    have := h i (by omega)
    rw [h2 i (by omega)] at this
    exact this.get
  · exact .agg _ _ hl h

theorem relA_mkTup {K : Mem} {ι : Nat → Pl} {n : Nat} {cs : List AV} {vs : Array Value} (hl : vs.size = cs.length)
    (h : ∀ i, i < cs.length → RelA K ι n (cs.getD i .junk) (vs.getD i undef)) : RelA K ι n (mkTup cs) (.tuple vs) := by
  unfold mkTup
  split
  · rename_i ds hd
    obtain ⟨h1, h2⟩ := allD_get hd
    refine .d _ _ (.tup _ _ (by omega) fun i hi => ?_)
    have := h i (by omega)
    rw [h2 i (by omega)] at this
    exact this.get
  · exact .tup _ _ hl h

end Go.Proofs.YtjmldlknegbimaaDoor.Sx
