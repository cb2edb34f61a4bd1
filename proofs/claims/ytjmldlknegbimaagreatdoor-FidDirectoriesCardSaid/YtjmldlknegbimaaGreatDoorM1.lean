/- The library, joined: A1 A2 A3 A4 A5 A6. -/
import Derived.Calls
import Derived.Orders
import Derived.Below
import Derived.KernelRfl
import Derived.Laws.Sem
import Derived.Laws.World
import Derived.Laws.Cells
import Derived.Laws.Small
import Derived.Laws.Slices
import Derived.Laws.Strings
import Derived.Laws.StructEq
import Derived.Laws.Entries
import Derived.Laws.NewBlocks
import Derived.Laws.Rows
import Derived.Laws.Append
import Derived.ChangeKeysEq
import Derived.Laws.Tables
import Derived.Laws.Build
/- Abstract values: data by value, boxes and append-tokens by number; what it means that a machine value is such a value. Own library, part 1. -/
set_option linter.unusedVariables false
set_option linter.unusedSimpArgs false
namespace Go.Proofs.YtjmldlknegbimaaGreatDoor.Sx
open Go Go.RowKit

inductive St where
  | any | nil | full
  deriving DecidableEq, Repr

inductive DV where
  | bool (b : Bool)
  | int (k : IntKind) (n : Int)
  | str (s : List UInt8)
  | nilp | nilf | nili
  | func (f : FuncId)
  | ifc (t : TypeId) (x : DV)
  | sl (st : St) (es : List (List DV))
  | agg (cs : List DV)
  | tup (xs : List DV)
  | eptr (cs : List DV) (off : Nat)

instance : Inhabited DV := ⟨.nilp⟩

abbrev Mem := Addr → Option Value

def Mem.le (K K' : Mem) : Prop := ∀ a v, K a = some v → K' a = some v
theorem Mem.le_refl (K : Mem) : Mem.le K K := fun _ _ h => h
theorem Mem.le_trans {K K' K'' : Mem} (h : Mem.le K K') (h' : Mem.le K' K'') : Mem.le K K'' := fun a v e => h' a v (h a v e)

inductive Rel (K : Mem) : DV → Value → Prop
  | bool (b : Bool) : Rel K (.bool b) (.bool b)
  | int (k : IntKind) (n : Int) : Rel K (.int k n) (.int k n)
  | str (s : List UInt8) : Rel K (.str s) (.string ⟨s.toArray⟩)
  | nilp : Rel K .nilp (.pointer none)
  | nilf : Rel K .nilf .nilFunc
  | nili : Rel K .nili .nilIface
  | func (f : FuncId) : Rel K (.func f) (.func (.func f) #[] #[])
  | ifc (t : TypeId) (x : DV) (v : Value) (h : Rel K x v) : Rel K (.ifc t x) (.iface t v)
  | slnil (st : St) : Rel K (.sl st []) (.slice none 0 0)
  | sl (st : St) (es : List (List DV)) (a : Addr) (cap sz : Nat) (val : Nat → Nat → Value) (hst : st ≠ .nil) (hf : st = .full → cap = es.length)
      (hc : es.length ≤ cap) (hz : ∀ i, i < es.length → (es.getD i []).length = sz)
      (hK : ∀ i j, i < es.length → j < sz → K (a.add (i * sz + j)) = some (val i j))
      (hr : ∀ i j, i < es.length → j < sz → Rel K ((es.getD i []).getD j .nilp) (val i j)) : Rel K (.sl st es) (.slice (some a) es.length cap)
  | agg (cs : List DV) (vs : Array Value) (hl : vs.size = cs.length) (h : ∀ i, i < cs.length → Rel K (cs.getD i .nilp) (vs.getD i undef)) : Rel K (.agg cs) (.agg vs)
  | tup (cs : List DV) (vs : Array Value) (hl : vs.size = cs.length) (h : ∀ i, i < cs.length → Rel K (cs.getD i .nilp) (vs.getD i undef)) : Rel K (.tup cs) (.tuple vs)
  | eptr (cs : List DV) (off : Nat) (a : Addr) (val : Nat → Value)
      (hK : ∀ j, j < cs.length → K (a.add j) = some (val j))
      (hr : ∀ j, j < cs.length → Rel K (cs.getD j .nilp) (val j)) : Rel K (.eptr cs off) (.pointer (some (a.add off)))

theorem Rel.mono {K K' : Mem} (h : Mem.le K K') {d : DV} {v : Value} (hr : Rel K d v) : Rel K' d v := by
  induction hr with
  | bool b => exact .bool b
  | int k n => exact .int k n
  | str s => exact .str s
  | nilp => exact .nilp
  | nilf => exact .nilf
  | nili => exact .nili
  | func f => exact .func f
  | ifc t x v _ ih => exact .ifc t x v ih
  | slnil st => exact .slnil st
  | sl st es a cap sz val hst hf hc hz hK _ ih => exact .sl st es a cap sz val hst hf hc hz (fun i j hi hj => h _ _ (hK i j hi hj)) ih
  | agg cs vs hl _ ih => exact .agg cs vs hl ih
  | tup cs vs hl _ ih => exact .tup cs vs hl ih
  | eptr cs off a val hK _ ih => exact .eptr cs off a val (fun j hj => h _ _ (hK j hj)) ih

/- What a result, or an argument, is handed on as: of a slice only its elements count. -/
mutual
def normD : DV → DV
  | .sl _ es => .sl .any es
  | .agg cs => .agg (normDL cs)
  | .tup cs => .tup (normDL cs)
  | .bool b => .bool b
  | .int k n => .int k n
  | .str s => .str s
  | .nilp => .nilp
  | .nilf => .nilf
  | .nili => .nili
  | .func f => .func f
  | .ifc t x => .ifc t x
  | .eptr cs off => .eptr cs off
def normDL : List DV → List DV
  | [] => []
  | x :: r => normD x :: normDL r
 end

theorem normDL_map (l : List DV) : normDL l = l.map normD := by
  induction l with
  | nil => rfl
  | cons x r ih => simp [normDL, ih]

theorem Rel.any {K : Mem} {st : St} {es : List (List DV)} {v : Value} (h : Rel K (.sl st es) v) : Rel K (.sl .any es) v := by
  cases h with
  | slnil => exact .slnil _
  | sl _ _ a cap sz val hst hf hc hz hK hr => exact .sl _ _ a cap sz val (by simp) (by simp) hc hz hK hr

theorem getD_map' {α β : Type} (f : α → β) (l : List α) (i : Nat) (d : α) (e : β) (h : i < l.length) : (l.map f).getD i e = f (l.getD i d) := by
  simp [List.getD_eq_getElem?_getD, h]

theorem Rel.norm {K : Mem} {d : DV} {v : Value} (hr : Rel K d v) : Rel K (normD d) v := by
  induction hr with
  | slnil st => exact .slnil _
  | sl st es a cap sz val hst hf hc hz hK hr ih => exact (Rel.sl st es a cap sz val hst hf hc hz hK hr).any
  | agg cs vs hl h ih =>
    rw [normD, normDL_map]
    refine .agg _ _ (by simpa using hl) fun i hi => ?_
    rw [getD_map' normD cs i .nilp _ (by simpa using hi)]
    exact ih i (by simpa using hi)
  | tup cs vs hl h ih =>
    rw [normD, normDL_map]
    refine .tup _ _ (by simpa using hl) fun i hi => ?_
    rw [getD_map' normD cs i .nilp _ (by simpa using hi)]
    exact ih i (by simpa using hi)
  | bool b => exact .bool b
  | int k n => exact .int k n
  | str s => exact .str s
  | nilp => exact .nilp
  | nilf => exact .nilf
  | nili => exact .nili
  | func f => exact .func f
  | ifc t x v h _ => exact .ifc t x v h
  | eptr cs off a val hK hr _ => exact .eptr cs off a val hK hr

/-- Values of the executor. -/
inductive AV where
  | d (x : DV)
  | ptr (id off : Nat)
  | tsl (tok : Nat) (es : List (List DV))
  | bsl (id off len cap : Nat)
  | clo (f : FuncId) (caps : List AV)
  | mp (id : Nat)
  | yld (id : Nat)
  | dfr (Ds : List Nat)
  | agg (cs : List AV)
  | tup (cs : List AV)
  | junk

instance : Inhabited AV := ⟨.junk⟩

/-- Where a box or a token lies. -/
structure Pl where
  block : Nat
  cur : Value
  len : Nat
  tb : Nat

inductive RelA (K : Mem) (ι : Nat → Pl) (n : Nat) : AV → Value → Prop
  | d (x : DV) (v : Value) (h : Rel K x v) : RelA K ι n (.d x) v
  | ptr (id off : Nat) (h : id < n) : RelA K ι n (.ptr id off) (.pointer (some ⟨(ι id).block, off, none⟩))
  | tsl (tok : Nat) (es : List (List DV)) (v : Value) (h : Rel K (.sl .any es) v) (ht : tok < n) (hl : es.length ≤ (ι tok).len)
      (hc : es.length = (ι tok).len → v = (ι tok).cur) : RelA K ι n (.tsl tok es) v
  | bsl (id off len cap : Nat) (h : id < n) : RelA K ι n (.bsl id off len cap) (.slice (some ⟨(ι id).block, off, none⟩) len cap)
  | clo (f : FuncId) (caps : List AV) (vs : Array Value) (hl : vs.size = caps.length) (h : ∀ i, i < caps.length → RelA K ι n (caps.getD i .junk) (vs.getD i undef)) :
      RelA K ι n (.clo f caps) (.func (.func f) #[] vs)
  | agg (cs : List AV) (vs : Array Value) (hl : vs.size = cs.length) (h : ∀ i, i < cs.length → RelA K ι n (cs.getD i .junk) (vs.getD i undef)) : RelA K ι n (.agg cs) (.agg vs)
  | tup (cs : List AV) (vs : Array Value) (hl : vs.size = cs.length) (h : ∀ i, i < cs.length → RelA K ι n (cs.getD i .junk) (vs.getD i undef)) : RelA K ι n (.tup cs) (.tuple vs)
  | mp (id : Nat) (h : id < n) : RelA K ι n (.mp id) (.map (some (ι id).block))
  | yld (id : Nat) (h : id < n) : RelA K ι n (.yld id) (.func (.yield (ι id).block) #[] #[])
  | dfr (Ds : List Nat) (v : Value) : RelA K ι n (.dfr Ds) v
  | junk (v : Value) : RelA K ι n .junk v

/-- The later places keep what the earlier ones said. -/
def Pls.le (n : Nat) (ι ι' : Nat → Pl) : Prop :=
  ∀ i, i < n → (ι' i).block = (ι i).block ∧ (ι i).len ≤ (ι' i).len ∧ ((ι' i).len = (ι i).len → (ι' i).cur = (ι i).cur)

theorem Pls.le_refl (n : Nat) (ι : Nat → Pl) : Pls.le n ι ι := fun _ _ => ⟨rfl, Nat.le_refl _, fun _ => rfl⟩
theorem Pls.le_trans {n n' : Nat} {ι ι' ι'' : Nat → Pl} (hn : n ≤ n') (h : Pls.le n ι ι') (h' : Pls.le n' ι' ι'') : Pls.le n ι ι'' := fun i hi => by
  obtain ⟨b, l, c⟩ := h i hi
  obtain ⟨b', l', c'⟩ := h' i (by omega)
  refine ⟨b'.trans b, by omega, fun e => ?_⟩
  rw [c' (by omega), c (by omega)]

theorem RelA.mono {K K' : Mem} {ι ι' : Nat → Pl} {n n' : Nat} (hK : Mem.le K K') (hn : n ≤ n') (hι : Pls.le n ι ι') {x : AV} {v : Value} (h : RelA K ι n x v) :
    RelA K' ι' n' x v := by
  induction h with
  | d x v h => exact .d _ _ (h.mono hK)
  | ptr id off h => rw [← (hι id h).1]; exact .ptr _ _ (by omega)
  | tsl tok es v h ht hl hc =>
    obtain ⟨b, l, c⟩ := hι tok ht
    exact .tsl _ _ _ (h.mono hK) (by omega) (by omega) (fun e => by rw [hc (by omega), c (by omega)])
  | bsl id off len cap h => rw [← (hι id h).1]; exact .bsl _ _ _ _ (by omega)
  | clo f caps vs hl _ ih => exact .clo _ _ _ hl ih
  | mp id h => rw [← (hι id h).1]; exact .mp _ (by omega)
  | yld id h => rw [← (hι id h).1]; exact .yld _ (by omega)
  | dfr Ds v => exact .dfr Ds v
  | agg cs vs hl _ ih => exact .agg _ _ hl ih
  | tup cs vs hl _ ih => exact .tup _ _ hl ih
  | junk v => exact .junk v

/- No number from m on stands in the value. -/
mutual
def AV.lt (m : Nat) : AV → Bool
  | .d _ => true
  | .ptr id _ => decide (id < m)
  | .tsl tok _ => decide (tok < m)
  | .bsl id _ _ _ => decide (id < m)
  | .clo _ cs => AV.ltL m cs
  | .mp id => decide (id < m)
  | .yld id => decide (id < m)
  | .dfr _ => true
  | .agg cs => AV.ltL m cs
  | .tup cs => AV.ltL m cs
  | .junk => true
def AV.ltL (m : Nat) : List AV → Bool
  | [] => true
  | x :: r => AV.lt m x && AV.ltL m r
 end

theorem AV.ltL_get {m : Nat} : ∀ {cs : List AV}, AV.ltL m cs = true → ∀ i, i < cs.length → AV.lt m (cs.getD i .junk) = true
  | [], _, i, hi => by simp at hi
  | x :: r, h, i, hi => by
    simp only [AV.ltL, Bool.and_eq_true] at h
    cases i with
    | zero => simpa using h.1
    | succ i => simpa using AV.ltL_get h.2 i (by simpa using hi)

theorem RelA.lt {K : Mem} {ι : Nat → Pl} {n m : Nat} {x : AV} {v : Value} (h : RelA K ι n x v) (hb : x.lt m = true) : RelA K ι m x v := by
  induction h with
  | d x v h => exact .d _ _ h
  | ptr id off h => exact .ptr _ _ (by simpa [AV.lt] using hb)
  | tsl tok es v h ht hl hc => exact .tsl _ _ _ h (by simpa [AV.lt] using hb) hl hc
  | bsl id off len cap h => exact .bsl _ _ _ _ (by simpa [AV.lt] using hb)
  | mp id h => exact .mp _ (by simpa [AV.lt] using hb)
  | yld id h => exact .yld _ (by simpa [AV.lt] using hb)
  | dfr Ds v => exact .dfr Ds v
  | clo f caps vs hl _ ih =>
    refine .clo _ _ _ hl fun i hi => ih i hi ?_
    rw [AV.lt] at hb
    exact AV.ltL_get hb i hi
  | agg caps vs hl _ ih =>
    refine .agg _ _ hl fun i hi => ih i hi ?_
    rw [AV.lt] at hb
    exact AV.ltL_get hb i hi
  | tup caps vs hl _ ih =>
    refine .tup _ _ hl fun i hi => ih i hi ?_
    rw [AV.lt] at hb
    exact AV.ltL_get hb i hi
  | junk v => exact .junk v

/-- An aggregate of plain data is plain data. -/
def AV.toD? : AV → Option DV
  | .d x => some x
  | _ => none

def allD : List AV → Option (List DV)
  | [] => some []
  | .d x :: r => (allD r).map (x :: ·)
  | _ => none

theorem allD_get : ∀ {cs : List AV} {ds : List DV}, allD cs = some ds → ds.length = cs.length ∧ ∀ i, i < cs.length → cs.getD i .junk = .d (ds.getD i .nilp)
  | [], ds, h => by simp [allD] at h; subst h; simp
  | .d x :: r, ds, h => by
    simp only [allD] at h
    cases hr : allD r with
    | none => rw [hr] at h; simp at h
    | some ds' =>
      rw [hr] at h; simp at h; subst h
      obtain ⟨h1, h2⟩ := allD_get hr
      refine ⟨by simp [h1], fun i hi => ?_⟩
      cases i with
      | zero => simp
      | succ i => simpa using h2 i (by simpa using hi)
  | .ptr .. :: r, ds, h => by simp [allD] at h
  | .tsl .. :: r, ds, h => by simp [allD] at h
  | .bsl .. :: r, ds, h => by simp [allD] at h
  | .clo .. :: r, ds, h => by simp [allD] at h
  | .mp .. :: r, ds, h => by simp [allD] at h
  | .yld .. :: r, ds, h => by simp [allD] at h
  | .dfr .. :: r, ds, h => by simp [allD] at h
  | .agg .. :: r, ds, h => by simp [allD] at h
  | .tup .. :: r, ds, h => by simp [allD] at h
  | .junk :: r, ds, h => by simp [allD] at h

def mkAgg (cs : List AV) : AV := match allD cs with | some ds => .d (.agg ds) | none => .agg cs
def mkTup (cs : List AV) : AV := match allD cs with | some ds => .d (.tup ds) | none => .tup cs

theorem RelA.get {K : Mem} {ι : Nat → Pl} {n : Nat} {x : DV} {v : Value} (h : RelA K ι n (.d x) v) : Rel K x v := by
  cases h; assumption

theorem relA_mkAgg {K : Mem} {ι : Nat → Pl} {n : Nat} {cs : List AV} {vs : Array Value} (hl : vs.size = cs.length)
    (h : ∀ i, i < cs.length → RelA K ι n (cs.getD i .junk) (vs.getD i undef)) : RelA K ι n (mkAgg cs) (.agg vs) := by
  unfold mkAgg
  split
  · rename_i ds hd
    obtain ⟨h1, h2⟩ := allD_get hd
    refine .d _ _ (.agg _ _ (by omega) fun i hi => ?_)
    have := h i (by omega)
    rw [h2 i (by omega)] at this
    exact this.get
  · exact .agg _ _ hl h

theorem relA_mkTup {K : Mem} {ι : Nat → Pl} {n : Nat} {cs : List AV} {vs : Array Value} (hl : vs.size = cs.length)
    (h : ∀ i, i < cs.length → RelA K ι n (cs.getD i .junk) (vs.getD i undef)) : RelA K ι n (mkTup cs) (.tuple vs) := by
  unfold mkTup
  split
  · rename_i ds hd
    obtain ⟨h1, h2⟩ := allD_get hd
    refine .d _ _ (.tup _ _ (by omega) fun i hi => ?_)
    have := h i (by omega)
    rw [h2 i (by omega)] at this
    exact this.get
  · exact .tup _ _ hl h

end Go.Proofs.YtjmldlknegbimaaGreatDoor.Sx

/- The operations that touch no memory of the call's own: what each gives at abstract values, and that the machine's operation gives just that. Own library, part 2. -/
set_option linter.unusedVariables false
set_option linter.unusedSimpArgs false
namespace Go.Proofs.YtjmldlknegbimaaGreatDoor.Sx
open Go Go.RowKit

/-! Types -/
inductive TK where
  | bool | int (k : IntKind) | string | slice (e : TypeId) | array (n : Nat) (e : TypeId) | struct (fs : List (TypeId × Nat)) | ptr (e : TypeId) | func | iface | map (k e : TypeId) | other

def TK.of : TypeDesc → TK
  | .bool => .bool
  | .int k => .int k
  | .string => .string
  | .slice e => .slice e
  | .array n e => .array n e
  | .struct fs => .struct (fs.toList.map fun f => (f.type, f.offset))
  | .pointer e => .ptr e
  | .func .. => .func
  | .interface _ => .iface
  | .map k e => .map k e
  | _ => .other

def tk (P : Program) (t : TypeId) : Option TK := (P.underlying t).map TK.of
def tsz (P : Program) (t : TypeId) : Option Nat := (P.info? t).map (·.size)
def tby (P : Program) (t : TypeId) : Option Nat := (P.info? t).map (·.bytes)
def tz (P : Program) (t : TypeId) : Option Value := (P.info? t).bind (·.zero)
def TK.isAgg : TK → Bool
  | .struct _ => true
  | .array .. => true
  | _ => false

section
variable {P : Program}

theorem run_under_tk {t : TypeId} {k : TK} (h : tk P t = some k) : ∃ d, P.underlying t = some d ∧ TK.of d = k ∧ ∀ w, (underlying t).run P w = .ok d w := by
  unfold tk at h
  cases hd : P.underlying t with
  | none => rw [hd] at h; simp at h
  | some d => rw [hd] at h; simp at h; exact ⟨d, rfl, h, fun w => run_underlying hd w⟩

theorem tk_slice {t e : TypeId} (h : tk P t = some (.slice e)) : P.underlying t = some (.slice e) := by
  obtain ⟨d, hd, hk, _⟩ := run_under_tk h
  cases d <;> simp [TK.of] at hk
  rw [hd, hk]

theorem tk_string {t : TypeId} (h : tk P t = some .string) : P.underlying t = some .string := by
  obtain ⟨d, hd, hk, _⟩ := run_under_tk h
  cases d <;> simp [TK.of] at hk
  rw [hd]
theorem tk_bool {t : TypeId} (h : tk P t = some .bool) : P.underlying t = some .bool := by
  obtain ⟨d, hd, hk, _⟩ := run_under_tk h
  cases d <;> simp [TK.of] at hk
  rw [hd]
theorem tk_int {t : TypeId} {k : IntKind} (h : tk P t = some (.int k)) : P.underlying t = some (.int k) := by
  obtain ⟨d, hd, hk, _⟩ := run_under_tk h
  cases d <;> simp [TK.of] at hk
  rw [hd, hk]
theorem tk_array {t e : TypeId} {n : Nat} (h : tk P t = some (.array n e)) : P.underlying t = some (.array n e) := by
  obtain ⟨d, hd, hk, _⟩ := run_under_tk h
  cases d <;> simp [TK.of] at hk
  rw [hd, hk.1, hk.2]
theorem tk_ptr {t e : TypeId} (h : tk P t = some (.ptr e)) : P.underlying t = some (.pointer e) := by
  obtain ⟨d, hd, hk, _⟩ := run_under_tk h
  cases d <;> simp [TK.of] at hk
  rw [hd, hk]
theorem tk_struct {t : TypeId} {fs : List (TypeId × Nat)} (h : tk P t = some (.struct fs)) : ∃ Fs : Array Field, P.underlying t = some (.struct Fs) ∧ Fs.toList.map (fun f => (f.type, f.offset)) = fs := by
  obtain ⟨d, hd, hk, _⟩ := run_under_tk h
  cases d <;> simp [TK.of] at hk
  exact ⟨_, hd, hk⟩

theorem run_sizeOf' {t : TypeId} {n : Nat} (h : tsz P t = some n) (w : World) : (sizeOf t).run P w = .ok n w := by
  unfold tsz at h
  cases hi : P.info? t with
  | none => rw [hi] at h; simp at h
  | some i => rw [hi] at h; simp at h; subst h; simp [sizeOf, run_typeInfo w hi]

theorem run_bytesOf' {t : TypeId} {n : Nat} (h : tby P t = some n) (w : World) : ∃ i, (typeInfo t).run P w = .ok i w ∧ i.bytes = n := by
  unfold tby at h
  cases hi : P.info? t with
  | none => rw [hi] at h; simp at h
  | some i => rw [hi] at h; simp at h; exact ⟨i, run_typeInfo w hi, h⟩

theorem run_zero' {t : TypeId} {z : Value} (h : tz P t = some z) (w : World) : (zeroValue t).run P w = .ok z w := by
  unfold tz at h
  cases hi : P.info? t with
  | none => rw [hi] at h; simp at h
  | some i => rw [hi] at h; simp at h; simp [zeroValue, run_typeInfo w hi, h]

theorem run_isAgg {t : TypeId} {k : TK} (h : tk P t = some k) (w : World) : (isAgg t).run P w = .ok k.isAgg w := by
  obtain ⟨d, hd, hk, hr⟩ := run_under_tk h
  subst hk
  simp only [isAgg, Sem.run_bind, hr, Result.andThen_ok]
  cases d <;> rfl
end

theorem Addr.add_add (a : Addr) (n m : Nat) : (a.add n).add m = a.add (n + m) := by
  unfold Addr.add
  by_cases hn : n = 0
  · subst hn; simp
  · by_cases hm : m = 0
    · subst hm; simp [hn]
    · simp [hn, hm, Nat.add_assoc]

theorem Addr.add_mk (b o n : Nat) : Addr.add ⟨b, o, none⟩ n = ⟨b, o + n, none⟩ := by
  unfold Addr.add; split <;> simp_all

/-! Wraps -/
theorem wrap_i64 {n : Int} (h1 : -9223372036854775808 ≤ n) (h2 : n ≤ 9223372036854775807) : IntKind.i64.wrap n = n := by
  have e : IntKind.i64.wrap n = if n % 18446744073709551616 ≥ 9223372036854775808 then n % 18446744073709551616 - 18446744073709551616 else n % 18446744073709551616 := by
    simp [IntKind.wrap, IntKind.bits, IntKind.signed]
  rw [e]
  split <;> omega
theorem wrap_i32 {n : Int} (h1 : -2147483648 ≤ n) (h2 : n ≤ 2147483647) : IntKind.i32.wrap n = n := by
  have e : IntKind.i32.wrap n = if n % 4294967296 ≥ 2147483648 then n % 4294967296 - 4294967296 else n % 4294967296 := by
    simp [IntKind.wrap, IntKind.bits, IntKind.signed]
  rw [e]
  split <;> omega
theorem wrap_u8 (n : Int) : IntKind.u8.wrap n = n % 256 := by simp [IntKind.wrap, IntKind.bits, IntKind.signed]
theorem wrap_u16 (n : Int) : IntKind.u16.wrap n = n % 65536 := by simp [IntKind.wrap, IntKind.bits, IntKind.signed]
theorem wrap_u32 (n : Int) : IntKind.u32.wrap n = n % 4294967296 := by simp [IntKind.wrap, IntKind.bits, IntKind.signed]
theorem wrap_u64 (n : Int) : IntKind.u64.wrap n = n % 18446744073709551616 := by simp [IntKind.wrap, IntKind.bits, IntKind.signed]

/-! Agreement of the known cells with the world -/
def Agree (K : Mem) (w : World) : Prop := ∀ a v, K a = some v → w.cell? a = some v

theorem Agree.lt {K : Mem} {w : World} (h : Agree K w) {a : Addr} {v : Value} (e : K a = some v) : a.block < w.heap.size := World.block_lt_of_cell? _ _ (h a v e)

/-! Constants -/
mutual
def ofV : Value → AV
  | .bool b => .d (.bool b)
  | .int k n => .d (.int k n)
  | .string s => .d (.str s.data.toList)
  | .pointer none => .d .nilp
  | .slice none 0 0 => .d (.sl .nil [])
  | .nilFunc => .d .nilf
  | .nilIface => .d .nili
  | .func (.func f) ⟨[]⟩ ⟨[]⟩ => .d (.func f)
  | .tuple ⟨[]⟩ => .d (.tup [])
  | .agg ⟨cs⟩ => mkAgg (ofVL cs)
  | _ => .junk
def ofVL : List Value → List AV
  | [] => []
  | v :: r => ofV v :: ofVL r
 end

theorem ofVL_get : ∀ (l : List Value) (i : Nat), i < l.length → (ofVL l).getD i .junk = ofV (l.getD i undef) ∧ (ofVL l).length = l.length
  | [], i, h => by simp at h
  | v :: r, 0, _ => by
    refine ⟨rfl, ?_⟩
    cases r with
    | nil => rfl
    | cons u r => have := (ofVL_get (u :: r) 0 (by simp)).2; simp only [ofVL, List.length_cons] at this ⊢; omega
  | v :: r, i + 1, h => by
    have := ofVL_get r i (by simpa using h)
    exact ⟨by simpa [ofVL] using this.1, by simp [ofVL, this.2]⟩

theorem ofVL_length (l : List Value) : (ofVL l).length = l.length := by
  cases l with
  | nil => rfl
  | cons u r => exact (ofVL_get (u :: r) 0 (by simp)).2

mutual
theorem ofV_rel (K : Mem) (ι : Nat → Pl) (n : Nat) : ∀ v : Value, RelA K ι n (ofV v) v
  | .bool b => .d _ _ (.bool b)
  | .int k m => .d _ _ (.int k m)
  | .string s => by
    have h : (⟨s.data.toList.toArray⟩ : ByteArray) = s := by cases s; simp
    have := Rel.str (K := K) s.data.toList
    rw [h] at this
    exact .d _ _ this
  | .pointer none => .d _ _ .nilp
  | .pointer (some a) => .junk _
  | .nilFunc => .d _ _ .nilf
  | .nilIface => .d _ _ .nili
  | .slice (some a) l c => by unfold ofV; exact .junk _
  | .slice none l c => by
    unfold ofV
    split <;> (rename_i h; first | exact .junk _ | (cases h; done) | (cases h; exact .d _ _ (.slnil _)))
  | .func f a c => by
    unfold ofV
    split <;> (rename_i h; first | exact .junk _ | (cases h; done) | (cases h; exact .d _ _ (.func _)))
  | .tuple vs => by
    unfold ofV
    split <;> (rename_i h; first | exact .junk _ | (cases h; done) | (cases h; exact .d _ _ (.tup _ _ rfl (fun i hi => by simp at hi))))
  | .agg ⟨cs⟩ => by
    have : ofV (.agg ⟨cs⟩) = mkAgg (ofVL cs) := by rw [ofV]
    rw [this]
    refine relA_mkAgg (by simp [ofVL_length]) fun i hi => ?_
    rw [ofVL_length] at hi
    have hg : (Array.mk cs).getD i undef = cs.getD i undef := by simp [Array.getD, hi, List.getD_eq_getElem?_getD]
    rw [hg]
    exact ofVL_rel K ι n cs i hi
  | .float .. => by unfold ofV; exact .junk _
  | .complex .. => by unfold ofV; exact .junk _
  | .map .. => by unfold ofV; exact .junk _
  | .chan .. => by unfold ofV; exact .junk _
  | .iface .. => by unfold ofV; exact .junk _
theorem ofVL_rel (K : Mem) (ι : Nat → Pl) (n : Nat) : ∀ (l : List Value) (i : Nat), i < l.length → RelA K ι n ((ofVL l).getD i .junk) (l.getD i undef)
  | [], i, h => absurd h (by simp)
  | v :: r, 0, _ => ofV_rel K ι n v
  | v :: r, i + 1, h => by simpa [ofVL] using ofVL_rel K ι n r i (by simpa using h)
 end

end Go.Proofs.YtjmldlknegbimaaGreatDoor.Sx

/- Pure operations at abstract values, and their soundness. Own library, part 3. -/
set_option linter.unusedVariables false
set_option linter.unusedSimpArgs false
namespace Go.Proofs.YtjmldlknegbimaaGreatDoor.Sx
open Go Go.RowKit

abbrev Env := Nat → AV
def upd (e : Env) (t : Nat) (v : AV) : Env := fun u => if u = t then v else e u

/-! Numbers and strings -/
def intA (op : BinOp) (k : IntKind) (a b : Int) : Option DV :=
  match op with
  | .add => some (.int k (k.wrap (a + b)))
  | .sub => some (.int k (k.wrap (a - b)))
  | .mul => some (.int k (k.wrap (a * b)))
  | .quo => if b = 0 then none else some (.int k (k.wrap (a.tdiv b)))
  | .rem => if b = 0 then none else some (.int k (a.tmod b))
  | .and => some (.int k (bits .and k a b))
  | .or => some (.int k (bits .or k a b))
  | .xor => some (.int k (bits .xor k a b))
  | .andNot => some (.int k (bits .andNot k a b))
  | .eql => some (.bool (a == b))
  | .neq => some (.bool (a != b))
  | .lss => some (.bool (decide (a < b)))
  | .leq => some (.bool (decide (a ≤ b)))
  | .gtr => some (.bool (decide (a > b)))
  | .geq => some (.bool (decide (a ≥ b)))
  | _ => none

def shA (op : BinOp) (k : IntKind) (a b : Int) : Option DV :=
  if b < 0 then none else
  match op with
  | .shl => some (.int k (k.wrap (a * 2 ^ (min b.toNat k.bits))))
  | .shr => some (.int k (a.fdiv (2 ^ (min b.toNat k.bits))))
  | _ => none

def strA (op : BinOp) (x y : List UInt8) : Option DV :=
  match op with
  | .add => if x.length + y.length ≤ 9223372036854775807 then some (.str (x ++ y)) else none
  | .eql => some (.bool (x == y))
  | .neq => some (.bool (!(x == y)))
  | .lss => some (.bool (Op.bytesLess x y))
  | .leq => some (.bool (Op.bytesLess x y || x == y))
  | .gtr => some (.bool (!(Op.bytesLess x y || x == y)))
  | .geq => some (.bool (!Op.bytesLess x y))
  | _ => none

section
variable {P : Program}

theorem intA_sound {op : BinOp} {k : IntKind} {a b : Int} {r : DV} (h : intA op k a b = some r) (hs : op ≠ .shl) (hs' : op ≠ .shr) (K : Mem) (t : TypeId) (w : World) :
    ∃ v, (binOp op t (.int k a) (.int k b)).run P w = .ok v w ∧ Rel K r v := by
  cases op <;> simp only [intA] at h <;> (try contradiction)
  all_goals first
    | (simp only [Option.some.injEq] at h; subst h; simp [binOp, Op.intArith, Op.intCmp, Op.intBits, bits]; first | exact .int _ _ | exact .bool _)
    | (split at h
       · contradiction
       · rename_i hb
         simp only [Option.some.injEq] at h; subst h; simp [binOp, Op.intDiv, hb]; exact .int _ _)

theorem shA_sound {op : BinOp} {k yk : IntKind} {a b : Int} {r : DV} (h : shA op k a b = some r) (hop : op = .shl ∨ op = .shr) (K : Mem) (t : TypeId) (w : World) :
    ∃ v, (binOp op t (.int k a) (.int yk b)).run P w = .ok v w ∧ Rel K r v := by
  unfold shA at h
  split at h
  · contradiction
  · rename_i hb
    rcases hop with rfl | rfl <;> (simp only [Option.some.injEq] at h; subst h; simp [binOp, Op.shift, hb]; exact .int _ _)

theorem strA_sound {op : BinOp} {x y : List UInt8} {r : DV} (h : strA op x y = some r) (K : Mem) (t : TypeId) (w : World) :
    ∃ v, (binOp op t (.string ⟨x.toArray⟩) (.string ⟨y.toArray⟩)).run P w = .ok v w ∧ Rel K r v := by
  cases op <;> simp only [strA] at h <;> (try contradiction)
  case add =>
    split at h
    · rename_i hl
      simp only [Option.some.injEq] at h; subst h
      have hx : (⟨x.toArray⟩ : ByteArray).size = x.length := by simp [ByteArray.size]
      have hy : (⟨y.toArray⟩ : ByteArray).size = y.length := by simp [ByteArray.size]
      have hn : ¬ (((x.length + y.length : Nat) : Int) > IntKind.i64.max) := by simp; omega
      refine ⟨.string ⟨(x ++ y).toArray⟩, ?_, .str _⟩
      simp only [binOp, Op.stringOp, hx, hy, hn, if_false, Sem.run_pure]
      congr 2
    · contradiction
  all_goals (simp only [Option.some.injEq] at h; subst h; simp [binOp, Op.stringOp]; exact .bool _)

/-! Equality of flat structs -/
inductive LK where
  | bool | int (k : IntKind) | str
  deriving DecidableEq

def flatFs (P : Program) (g : TypeId → Option (List LK)) : List Field → Nat → Option (List LK)
  | [], _ => some []
  | f :: fs, off =>
    if f.name = "_" ∨ f.offset ≠ off then none else
    match g f.type with
    | none => none
    | some ks => if tsz P f.type = some ks.length then (flatFs P g fs (off + ks.length)).map (ks ++ ·) else none

def flatK (P : Program) : Nat → TypeId → Option (List LK)
  | 0, _ => none
  | d + 1, t =>
    match tk P t with
    | some .bool => some [.bool]
    | some (.int k) => some [.int k]
    | some .string => some [.str]
    | some (.struct _) => if P.stoodInHeld t then none else flatFs P (flatK P d) (P.fieldsOf t).toList 0
    | _ => none

def eqOk (P : Program) (t : TypeId) : Option (List LK) :=
  match tk P t with
  | some (.struct _) => if P.eqGuardType P.depth t then none else flatK P 50 t
  | _ => none

def eq1 : LK → Value → Value → Option Bool
  | .bool, .bool a, .bool b => some (a == b)
  | .int k, .int j a, .int l b => if j = k ∧ l = k then some (a == b) else none
  | .str, .string a, .string b => some (a.data.toList == b.data.toList)
  | _, _, _ => none

def eqVals : List LK → List Value → List Value → Option Bool
  | [], [], [] => some true
  | k :: ks, x :: xs, y :: ys =>
    match eq1 k x y, eqVals ks xs ys with
    | some c, some b => some (c && b)
    | _, _ => none
  | _, _, _ => none

def eq1D : LK → DV → DV → Option Bool
  | .bool, .bool a, .bool b => some (a == b)
  | .int k, .int j a, .int l b => if j = k ∧ l = k then some (a == b) else none
  | .str, .str a, .str b => some (a == b)
  | _, _, _ => none

def eqCells : List LK → List DV → List DV → Option Bool
  | [], [], [] => some true
  | k :: ks, x :: xs, y :: ys =>
    match eq1D k x y, eqCells ks xs ys with
    | some c, some b => some (c && b)
    | _, _ => none
  | _, _, _ => none

theorem eqVals_cons {k : LK} {ks : List LK} {xs ys : List Value} {b : Bool} (h : eqVals (k :: ks) xs ys = some b) :
    ∃ x xs' y ys' c b', xs = x :: xs' ∧ ys = y :: ys' ∧ eq1 k x y = some c ∧ eqVals ks xs' ys' = some b' ∧ b = (c && b') := by
  cases xs with
  | nil => simp [eqVals] at h
  | cons x xs =>
    cases ys with
    | nil => simp [eqVals] at h
    | cons y ys =>
      simp only [eqVals] at h
      split at h
      · rename_i c b' h1 h2
        simp only [Option.some.injEq] at h
        exact ⟨x, xs, y, ys, c, b', rfl, rfl, h1, h2, h.symm⟩
      · contradiction
theorem eqVals_nil {xs ys : List Value} {b : Bool} (h : eqVals [] xs ys = some b) : xs = [] ∧ ys = [] ∧ b = true := by
  cases xs <;> cases ys <;> simp [eqVals] at h
  exact ⟨rfl, rfl, h⟩
theorem eqCells_cons {k : LK} {ks : List LK} {xs ys : List DV} {b : Bool} (h : eqCells (k :: ks) xs ys = some b) :
    ∃ x xs' y ys' c b', xs = x :: xs' ∧ ys = y :: ys' ∧ eq1D k x y = some c ∧ eqCells ks xs' ys' = some b' ∧ b = (c && b') := by
  cases xs with
  | nil => simp [eqCells] at h
  | cons x xs =>
    cases ys with
    | nil => simp [eqCells] at h
    | cons y ys =>
      simp only [eqCells] at h
      split at h
      · rename_i c b' h1 h2
        simp only [Option.some.injEq] at h
        exact ⟨x, xs, y, ys, c, b', rfl, rfl, h1, h2, h.symm⟩
      · contradiction

theorem eqVals_app {ks : List LK} : ∀ {ks' : List LK} {xs ys : List Value} {b : Bool}, eqVals (ks ++ ks') xs ys = some b →
    ∃ b1 b2, eqVals ks (xs.take ks.length) (ys.take ks.length) = some b1 ∧ eqVals ks' (xs.drop ks.length) (ys.drop ks.length) = some b2 ∧ b = (b1 && b2) ∧ ks.length ≤ xs.length ∧ ks.length ≤ ys.length := by
  induction ks with
  | nil => intro ks' xs ys b h; exact ⟨true, b, by simp [eqVals], by simpa using h, by simp, by simp, by simp⟩
  | cons k ks ih =>
    intro ks' xs ys b h
    obtain ⟨x, xs', y, ys', c, b', rfl, rfl, h1, h2, rfl⟩ := eqVals_cons h
    obtain ⟨b1, b2, e1, e2, rfl, l1, l2⟩ := ih h2
    refine ⟨c && b1, b2, by simp [eqVals, e1, h1], by simpa using e2, by simp [Bool.and_assoc], by simp; omega, by simp; omega⟩

theorem eq1_run {k : LK} {x y : Value} {c : Bool} (h : eq1 k x y = some c) :
    (k = .bool ∧ ∃ a b, x = .bool a ∧ y = .bool b ∧ c = (a == b)) ∨ (∃ j a b, k = .int j ∧ x = .int j a ∧ y = .int j b ∧ c = (a == b)) ∨
    (k = .str ∧ ∃ a b, x = .string a ∧ y = .string b ∧ c = (a.data.toList == b.data.toList)) := by
  unfold eq1 at h
  split at h
  · simp only [Option.some.injEq] at h; exact .inl ⟨rfl, _, _, rfl, rfl, h.symm⟩
  · split at h
    · rename_i hk
      obtain ⟨rfl, rfl⟩ := hk
      simp only [Option.some.injEq] at h; exact .inr (.inl ⟨_, _, _, rfl, rfl, rfl, h.symm⟩)
    · contradiction
  · simp only [Option.some.injEq] at h; exact .inr (.inr ⟨rfl, _, _, rfl, rfl, h.symm⟩)
  · contradiction

/-- The value of a type that lies in some cells. -/
def valOf (P : Program) (t : TypeId) (cs : List Value) : Value :=
  match tk P t with
  | some k => if k.isAgg then .agg cs.toArray else cs.headD undef
  | none => undef

theorem run_part_flat {t : TypeId} {k : TK} {n : Nat} (hk : tk P t = some k) (hn : tsz P t = some n) (hn1 : k.isAgg = false → n = 1) {cs : List Value} {off : Nat} (hl : off + n ≤ cs.length) (w : World) :
    (part t cs.toArray off).run P w = .ok (valOf P t ((cs.drop off).take n)) w := by
  unfold part valOf
  simp only [Sem.run_bind, run_isAgg hk, Result.andThen_ok, hk]
  cases ha : k.isAgg with
  | true =>
    simp only [if_true, Sem.run_bind, run_sizeOf' hn, Result.andThen_ok, Sem.run_pure]
    congr 2
    apply Array.ext'
    simp [List.extract_eq_take_drop]
  | false =>
    have := hn1 ha; subst this
    have hlt : off < cs.length := by omega
    simp only [if_false, Bool.false_eq_true]
    rw [show cs.toArray[off]? = some cs[off] from by simp [hlt]]
    simp only [Sem.run_pure]
    rw [List.drop_eq_getElem_cons hlt]
    rfl

theorem flatK_len1 {d : Nat} {t : TypeId} {ks : List LK} {k : TK} (h : flatK P d t = some ks) (hk : tk P t = some k) (ha : k.isAgg = false) : ks.length = 1 := by
  cases d with
  | zero => simp [flatK] at h
  | succ d =>
    unfold flatK at h
    rw [hk] at h
    cases k <;> simp [TK.isAgg] at ha <;> simp at h <;> (subst h; rfl)

theorem flatK_tk {d : Nat} {t : TypeId} {ks : List LK} (h : flatK P d t = some ks) : ∃ k, tk P t = some k := by
  cases d with
  | zero => simp [flatK] at h
  | succ d =>
    unfold flatK at h
    cases hk : tk P t with
    | none => rw [hk] at h; simp at h
    | some k => exact ⟨k, rfl⟩

theorem flat_run : ∀ (d : Nat) {t : TypeId} {ks : List LK}, flatK P d t = some ks → ∀ (d' : Nat), d ≤ d' → ∀ (xs ys : List Value) (b : Bool), eqVals ks xs ys = some b → ∀ w,
    (Op.equalIn d' t (valOf P t xs) (valOf P t ys)).run P w = .ok b w := by
  intro d
  induction d with
  | zero => intro t ks h; simp [flatK] at h
  | succ d ih =>
    intro t ks h d' hd xs ys b he w
    obtain ⟨d', rfl⟩ : ∃ m, d' = m + 1 := ⟨d' - 1, by omega⟩
    unfold flatK at h
    cases hk : tk P t with
    | none => rw [hk] at h; simp at h
    | some k =>
      rw [hk] at h
      cases k with
      | bool =>
        simp at h; subst h
        obtain ⟨x, xs', y, ys', c, b', rfl, rfl, h1, h2, rfl⟩ := eqVals_cons he
        obtain ⟨rfl, rfl, rfl⟩ := eqVals_nil h2
        rcases eq1_run h1 with ⟨_, p, q, rfl, rfl, rfl⟩ | ⟨j, p, q, e, rfl, rfl, rfl⟩ | ⟨e, p, q, rfl, rfl, rfl⟩
        · simp [valOf, hk, TK.isAgg, run_equalIn_bool w d' t _ _ (tk_bool hk)]
        · cases e
        · cases e
      | int k =>
        simp at h; subst h
        obtain ⟨x, xs', y, ys', c, b', rfl, rfl, h1, h2, rfl⟩ := eqVals_cons he
        obtain ⟨rfl, rfl, rfl⟩ := eqVals_nil h2
        rcases eq1_run h1 with ⟨e, p, q, rfl, rfl, rfl⟩ | ⟨j, p, q, e, rfl, rfl, rfl⟩ | ⟨e, p, q, rfl, rfl, rfl⟩
        · cases e
        · simp [valOf, hk, TK.isAgg, run_equalIn_int w d' t _ _ _ _ (tk_int hk)]
        · cases e
      | string =>
        simp at h; subst h
        obtain ⟨x, xs', y, ys', c, b', rfl, rfl, h1, h2, rfl⟩ := eqVals_cons he
        obtain ⟨rfl, rfl, rfl⟩ := eqVals_nil h2
        rcases eq1_run h1 with ⟨e, p, q, rfl, rfl, rfl⟩ | ⟨j, p, q, e, rfl, rfl, rfl⟩ | ⟨e, p, q, rfl, rfl, rfl⟩
        · cases e
        · cases e
        · simp [valOf, hk, TK.isAgg, run_equalIn_string w d' t _ _ (tk_string hk), ByteArray.toList_eq]
      | struct fs =>
        simp only at h
        split at h
        · contradiction
        · rename_i hst
          obtain ⟨Fs, hu, _⟩ := tk_struct hk
          have hfo : P.fieldsOf t = Fs := by simp [Program.fieldsOf, hu]
          have hval : ∀ cs, valOf P t cs = .agg cs.toArray := fun cs => by simp [valOf, hk, TK.isAgg]
          rw [hval, hval, run_equalIn_struct w d' t xs.toArray ys.toArray (by rw [hfo]; exact hu) (by simpa using hst)]
          -- field by field
          have key : ∀ (fl : List Field) (off : Nat) (ks : List LK) (b : Bool), flatFs P (flatK P d) fl off = some ks → eqVals ks (xs.drop off) (ys.drop off) = some b →
              (Op.eqFields d' xs.toArray ys.toArray fl).run P w = .ok b w := by
            intro fl
            induction fl with
            | nil =>
              intro off ks b h1 h2
              simp [flatFs] at h1; subst h1
              obtain ⟨_, _, rfl⟩ := eqVals_nil h2
              simp [Op.eqFields]
            | cons f fl ihf =>
              intro off ks b h1 h2
              simp only [flatFs] at h1
              split at h1
              · contradiction
              · rename_i hnm
                simp only [not_or, Classical.not_not] at hnm
                obtain ⟨hnm, rfl⟩ := hnm
                split at h1
                · contradiction
                · rename_i ks1 hk1
                  split at h1
                  · rename_i hsz
                    cases hr : flatFs P (flatK P d) fl (f.offset + ks1.length) with
                    | none => rw [hr] at h1; simp at h1
                    | some ks2 =>
                      rw [hr] at h1; simp at h1; subst h1
                      obtain ⟨b1, b2, e1, e2, rfl, l1, l2⟩ := eqVals_app h2
                      rw [List.drop_drop] at e2
                      rw [List.drop_drop] at e2
                      obtain ⟨k1, hkk⟩ := flatK_tk hk1
                      have hl1 : f.offset + ks1.length ≤ xs.length ∨ ks1.length = 0 := by
                        by_cases hz : ks1.length = 0
                        · exact .inr hz
                        · left; simp at l1; omega
                      have hl2 : f.offset + ks1.length ≤ ys.length ∨ ks1.length = 0 := by
                        by_cases hz : ks1.length = 0
                        · exact .inr hz
                        · left; simp at l2; omega
                      have hpx : (part f.type xs.toArray f.offset).run P w = .ok (valOf P f.type ((xs.drop f.offset).take ks1.length)) w := by
                        rcases hl1 with hl | hz
                        · exact run_part_flat hkk hsz (fun ha => flatK_len1 hk1 hkk ha) hl w
                        · have ha : k1.isAgg = true := by
                            cases hc : k1.isAgg with
                            | true => rfl
                            | false => have := flatK_len1 hk1 hkk hc; omega
                          unfold part valOf
                          simp only [Sem.run_bind, run_isAgg hkk, Result.andThen_ok, hkk, ha, if_true, run_sizeOf' hsz, Sem.run_pure]
                          congr 2
                          apply Array.ext'
                          simp [List.extract_eq_take_drop]
                      have hpy : (part f.type ys.toArray f.offset).run P w = .ok (valOf P f.type ((ys.drop f.offset).take ks1.length)) w := by
                        rcases hl2 with hl | hz
                        · exact run_part_flat hkk hsz (fun ha => flatK_len1 hk1 hkk ha) hl w
                        · have ha : k1.isAgg = true := by
                            cases hc : k1.isAgg with
                            | true => rfl
                            | false => have := flatK_len1 hk1 hkk hc; omega
                          unfold part valOf
                          simp only [Sem.run_bind, run_isAgg hkk, Result.andThen_ok, hkk, ha, if_true, run_sizeOf' hsz, Sem.run_pure]
                          congr 2
                          apply Array.ext'
                          simp [List.extract_eq_take_drop]
                      simp only [Op.eqFields]
                      rw [if_pos (by simpa using hnm)]
                      simp only [Sem.run_bind, hpx, hpy, Result.andThen_ok, ih hk1 d' (by omega) _ _ _ e1, Sem.run_ite, Sem.run_pure]
                      cases b1 with
                      | false => simp
                      | true => simpa using ihf _ _ _ hr e2
                  · contradiction
          rw [hfo] at h ⊢
          exact key _ 0 ks b h (by simpa using he)
      | slice e => simp at h
      | array n e => simp at h
      | ptr e => simp at h
      | func => simp at h
      | iface => simp at h
      | map k e => simp at h
      | other => simp at h

theorem eqCells_vals {K : Mem} {ks : List LK} : ∀ {xs ys : List DV} {us vs : List Value} {b : Bool}, eqCells ks xs ys = some b → us.length = xs.length → vs.length = ys.length →
    (∀ i, i < xs.length → Rel K (xs.getD i .nilp) (us.getD i undef)) → (∀ i, i < ys.length → Rel K (ys.getD i .nilp) (vs.getD i undef)) → eqVals ks us vs = some b := by
  induction ks with
  | nil =>
    intro xs ys us vs b h hu hv _ _
    cases xs <;> cases ys <;> simp [eqCells] at h
    cases us <;> simp at hu
    cases vs <;> simp at hv
    simp [eqVals, h]
  | cons k ks ih =>
    intro xs ys us vs b h hu hv hx hy
    obtain ⟨x, xs', y, ys', c, b', rfl, rfl, h1, h2, rfl⟩ := eqCells_cons h
    cases us <;> simp at hu
    cases vs <;> simp at hv
    rename_i u us v vs
    have r1 := hx 0 (by simp)
    have r2 := hy 0 (by simp)
    simp at r1 r2
    have e := ih h2 hu hv (fun i hi => by simpa using hx (i + 1) (by simpa using hi)) (fun i hi => by simpa using hy (i + 1) (by simpa using hi))
    have e1 : eq1 k u v = some c := by
      unfold eq1D at h1
      split at h1
      · cases r1; cases r2; exact h1
      · split at h1
        · rename_i hk
          obtain ⟨rfl, rfl⟩ := hk
          cases r1; cases r2; simpa [eq1] using h1
        · contradiction
      · cases r1; cases r2; simpa [eq1] using h1
      · contradiction
    simp [eqVals, e1, e]

end
end Go.Proofs.YtjmldlknegbimaaGreatDoor.Sx

/- Pure operations at abstract values, and their soundness: parts, addresses, slices, conversions. Own library, part 4. -/
set_option linter.unusedVariables false
set_option linter.unusedSimpArgs false
namespace Go.Proofs.YtjmldlknegbimaaGreatDoor.Sx
open Go Go.RowKit

section
variable {P : Program} {K : Mem} {ι : Nat → Pl} {n : Nat}

def cellsA : AV → Option (List AV)
  | .d (.agg cs) => some (cs.map .d)
  | .agg cs => some cs
  | .junk => none
  | .dfr _ => none
  | x => some [x]

theorem getD_toList (vs : Array Value) (i : Nat) : vs.toList.getD i undef = vs.getD i undef := by
  simp [Array.getD, List.getD_eq_getElem?_getD]
  split <;> simp_all

theorem cellsA_rel {x : AV} {v : Value} {cs : List AV} (h : RelA K ι n x v) (hc : cellsA x = some cs) :
    v.cells.size = cs.length ∧ ∀ i, i < cs.length → RelA K ι n (cs.getD i .junk) (v.cells.getD i undef) := by
  cases h with
  | d x v h =>
    cases h with
    | agg ds vs hl hr =>
      simp only [cellsA, Option.some.injEq] at hc; subst hc
      refine ⟨by simpa [Value.cells] using hl, fun i hi => ?_⟩
      rw [getD_map' AV.d ds i .nilp _ (by simpa using hi)]
      exact .d _ _ (hr i (by simpa using hi))
    | _ =>
      simp only [cellsA, Option.some.injEq] at hc; subst hc
      refine ⟨rfl, fun i hi => ?_⟩
      obtain rfl : i = 0 := by simpa using hi
      simp only [List.getD_cons_zero, Value.cells, Array.getD_eq_getD_getElem?]
      refine .d _ _ ?_
      first | exact .bool _ | exact .int _ _ | exact .str _ | exact .nilp | exact .nilf | exact .nili | exact .func _ | exact .ifc _ _ _ ‹_› | exact .slnil _ | (exact .sl _ _ _ _ _ _ ‹_› ‹_› ‹_› ‹_› ‹_› ‹_›) | (exact .tup _ _ ‹_› ‹_›) | (exact .eptr _ _ _ _ ‹_› ‹_›)
  | agg ds vs hl hr =>
    simp only [cellsA, Option.some.injEq] at hc; subst hc
    exact ⟨hl, hr⟩
  | junk v => simp [cellsA] at hc
  | ptr id off h =>
    simp only [cellsA, Option.some.injEq] at hc; subst hc
    refine ⟨rfl, fun i hi => ?_⟩
    obtain rfl : i = 0 := by simpa using hi
    exact .ptr _ _ h
  | tsl tok es v h ht hl hcu =>
    simp only [cellsA, Option.some.injEq] at hc; subst hc
    have hv : v.cells = #[v] := by cases h <;> rfl
    rw [hv]
    refine ⟨rfl, fun i hi => ?_⟩
    obtain rfl : i = 0 := by simpa using hi
    exact .tsl _ _ _ h ht hl hcu
  | bsl id off len cap h =>
    simp only [cellsA, Option.some.injEq] at hc; subst hc
    refine ⟨rfl, fun i hi => ?_⟩
    obtain rfl : i = 0 := by simpa using hi
    exact .bsl _ _ _ _ h
  | clo f caps vs hl h =>
    simp only [cellsA, Option.some.injEq] at hc; subst hc
    refine ⟨rfl, fun i hi => ?_⟩
    obtain rfl : i = 0 := by simpa using hi
    exact .clo _ _ _ hl h
  | mp id h =>
    simp only [cellsA, Option.some.injEq] at hc; subst hc
    refine ⟨rfl, fun i hi => ?_⟩
    obtain rfl : i = 0 := by simpa using hi
    exact .mp _ h
  | yld id h =>
    simp only [cellsA, Option.some.injEq] at hc; subst hc
    refine ⟨rfl, fun i hi => ?_⟩
    obtain rfl : i = 0 := by simpa using hi
    exact .yld _ h
  | dfr Ds v => simp [cellsA] at hc
  | tup caps vs hl h =>
    simp only [cellsA, Option.some.injEq] at hc; subst hc
    refine ⟨rfl, fun i hi => ?_⟩
    obtain rfl : i = 0 := by simpa using hi
    exact .tup _ _ hl h

/-! A part of some cells -/
def partA (P : Program) (t : TypeId) (cs : List AV) (off : Nat) : Option AV :=
  match tk P t, tsz P t with
  | some k, some n => if k.isAgg then (if off + n ≤ cs.length then some (mkAgg ((cs.drop off).take n)) else none) else cs[off]?
  | _, _ => none

theorem getD_take_drop {α : Type} (l : List α) (a b i : Nat) (d : α) (h : i < b) : ((l.drop a).take b).getD i d = l.getD (a + i) d := by
  simp [List.getD_eq_getElem?_getD, List.getElem?_take, h, List.getElem?_drop]

theorem part_sound {t : TypeId} {cs : List AV} {off : Nat} {r : AV} {vs : Array Value} (h : partA P t cs off = some r) (hl : vs.size = cs.length)
    (hr : ∀ i, i < cs.length → RelA K ι n (cs.getD i .junk) (vs.getD i undef)) (w : World) : ∃ v, (part t vs off).run P w = .ok v w ∧ RelA K ι n r v := by
  unfold partA at h
  split at h
  · rename_i k m hk hm
    split at h
    · rename_i ha
      split at h
      · rename_i hle
        simp only [Option.some.injEq] at h; subst h
        refine ⟨.agg (vs.extract off (off + m)), ?_, relA_mkAgg (by simp; omega) fun i hi => ?_⟩
        · simp [part, run_isAgg hk, ha, run_sizeOf' hm]
        · simp only [List.length_take, List.length_drop] at hi
          rw [getD_take_drop _ _ _ _ _ (by omega)]
          have : (vs.extract off (off + m)).getD i undef = vs.getD (off + i) undef := by
            simp only [Array.getD_eq_getD_getElem?, Array.getElem?_extract]
            rw [if_pos (by omega)]
          rw [this]
          exact hr _ (by omega)
      · contradiction
    · rename_i ha
      have hlt : off < cs.length := by
        by_cases hc : off < cs.length
        · exact hc
        · rw [List.getElem?_eq_none (by omega)] at h; contradiction
      refine ⟨vs.getD off undef, ?_, ?_⟩
      · have hv : vs[off]? = some (vs.getD off undef) := by simp [Array.getD, hl, hlt]
        simp only [part, Sem.run_bind, run_isAgg hk, Result.andThen_ok, ha, if_false, Bool.false_eq_true]
        rw [hv]
        rfl
      · have := hr off hlt
        rw [List.getElem?_eq_getElem hlt] at h
        simp only [Option.some.injEq] at h; subst h
        rwa [List.getD_eq_getElem?_getD, List.getElem?_eq_getElem hlt] at this
  · contradiction

theorem load_sound {t : TypeId} {cs : List AV} {off : Nat} {r : AV} {a : Addr} {val : Nat → Value} {w : World} (h : partA P t cs off = some r)
    (hc : ∀ j, j < cs.length → w.cell? (a.add j) = some (val j))
    (hr : ∀ i, i < cs.length → RelA K ι n (cs.getD i .junk) (val i)) : ∃ v, (loadVar t (a.add off)).run P w = .ok v w ∧ RelA K ι n r v := by
  unfold partA at h
  split at h
  · rename_i k m hk hm
    split at h
    · rename_i ha
      split at h
      · rename_i hle
        simp only [Option.some.injEq] at h; subst h
        have hrun := run_loadCells (P := P) w (a.add off) m (fun j => val (off + j)) (fun j hj => by rw [Addr.add_add]; exact hc _ (by omega))
        refine ⟨.agg ((List.range m).map fun j => val (off + j)).toArray, ?_, relA_mkAgg (by simp; omega) fun i hi => ?_⟩
        · simp [loadVar, run_isAgg hk, ha, run_sizeOf' hm, hrun]
        · simp only [List.length_take, List.length_drop] at hi
          rw [getD_take_drop _ _ _ _ _ (by omega)]
          have : (((List.range m).map fun j => val (off + j)).toArray).getD i undef = val (off + i) := by
            simp [Array.getD, show i < m from by omega]
          rw [this]
          exact hr _ (by omega)
      · contradiction
    · rename_i ha
      have hlt : off < cs.length := by
        by_cases hc : off < cs.length
        · exact hc
        · rw [List.getElem?_eq_none (by omega)] at h; contradiction
      refine ⟨val off, ?_, ?_⟩
      · simp [loadVar, run_isAgg hk, ha, hc off hlt]
      · have := hr off hlt
        rw [List.getElem?_eq_getElem hlt] at h
        simp only [Option.some.injEq] at h; subst h
        rwa [List.getD_eq_getElem?_getD, List.getElem?_eq_getElem hlt] at this
  · contradiction

/-! Field of a value; address of a field -/
def fieldOf (P : Program) (t : TypeId) (f : Nat) : Option (TypeId × Nat) :=
  match tk P t with
  | some (.struct fs) => fs[f]?
  | _ => none

theorem fieldOf_some {t : TypeId} {f : Nat} {u : TypeId} {o : Nat} (h : fieldOf P t f = some (u, o)) :
    ∃ Fs F, P.underlying t = some (.struct Fs) ∧ Fs[f]? = some F ∧ F.type = u ∧ F.offset = o := by
  unfold fieldOf at h
  split at h
  · rename_i fs hk
    obtain ⟨Fs, hu, rfl⟩ := tk_struct hk
    simp only [List.getElem?_map, Option.map_eq_some_iff, Array.getElem?_toList] at h
    obtain ⟨F, hF, e⟩ := h
    simp only [Prod.mk.injEq] at e
    exact ⟨Fs, F, hu, hF, e.1, e.2⟩
  · contradiction

def fieldA (P : Program) (t : TypeId) (x : AV) (f : Nat) : Option AV :=
  match fieldOf P t f with
  | some (u, o) =>
    match x with
    | .d (.agg cs) => partA P u (cs.map .d) o
    | .agg cs => partA P u cs o
    | _ => none
  | none => none

theorem fieldA_sound {t : TypeId} {x r : AV} {f : Nat} {v : Value} (h : fieldA P t x f = some r) (hx : RelA K ι n x v) (w : World) :
    ∃ u, (Instr.field t v f).run P w = .ok u w ∧ RelA K ι n r u := by
  unfold fieldA at h
  split at h
  · rename_i u o hf
    obtain ⟨Fs, F, hu, hF, rfl, rfl⟩ := fieldOf_some hf
    split at h
    · rename_i cs
      have hg := hx.get
      cases hg with
      | agg _ vs hl hr =>
        obtain ⟨y, hy, hy2⟩ := part_sound (P := P) (K := K) (ι := ι) (n := n) (vs := vs) h (by simpa using hl) (fun i hi => by
          rw [getD_map' AV.d cs i .nilp _ (by simpa using hi)]
          exact .d _ _ (hr i (by simpa using hi))) w
        exact ⟨y, by simp [Instr.field, run_underlying hu, hF, asAgg, hy], hy2⟩
    · rename_i cs
      cases hx with
      | agg _ vs hl hr =>
        obtain ⟨y, hy, hy2⟩ := part_sound (P := P) (K := K) (ι := ι) (n := n) (vs := vs) h hl hr w
        exact ⟨y, by simp [Instr.field, run_underlying hu, hF, asAgg, hy], hy2⟩
    · contradiction
  · contradiction

def nz (o : Option Nat) : Bool :=
  match o with
  | some (_ + 1) => true
  | _ => false

def faA (P : Program) (t : TypeId) (x : AV) (f : Nat) : Option AV :=
  match fieldOf P t f with
  | some (u, o) =>
    if nz (tsz P u) then
      match x with
      | .ptr id off => some (.ptr id (off + o))
      | .d (.eptr cs off) => some (.d (.eptr cs (off + o)))
      | _ => none
    else none
  | none => none

theorem nz_some {o : Option Nat} (h : nz o = true) : ∃ m, o = some (m + 1) := by
  unfold nz at h
  split at h
  · exact ⟨_, rfl⟩
  · contradiction

theorem faA_sound {t : TypeId} {x r : AV} {f : Nat} {v : Value} (h : faA P t x f = some r) (hx : RelA K ι n x v) (w : World) :
    ∃ u, (Instr.fieldAt t v f).run P w = .ok u w ∧ RelA K ι n r u := by
  unfold faA at h
  split at h
  · rename_i u o hf
    obtain ⟨Fs, F, hu, hF, rfl, rfl⟩ := fieldOf_some hf
    split at h
    · rename_i hz
      obtain ⟨m, hm⟩ := nz_some hz
      split at h
      · rename_i id off
        simp only [Option.some.injEq] at h; subst h
        cases hx with
        | ptr _ _ hi =>
          refine ⟨_, by simp [Instr.fieldAt, run_underlying hu, hF, Instr.sureAddr, fieldPlace, run_sizeOf' hm]; rfl, ?_⟩
          rw [Addr.add_mk]
          exact .ptr _ _ hi
      · rename_i cs off
        simp only [Option.some.injEq] at h; subst h
        have hg := hx.get
        cases hg with
        | eptr _ _ a val hK hr =>
          refine ⟨_, by simp [Instr.fieldAt, run_underlying hu, hF, Instr.sureAddr, fieldPlace, run_sizeOf' hm]; rfl, ?_⟩
          rw [Addr.add_add]
          exact .d _ _ (.eptr _ _ _ _ hK hr)
      · contradiction
    · contradiction
  · contradiction

/-! Index -/
def elA (s : Nat) (es : List (List DV)) (i : Int) : Option AV :=
  if 0 ≤ i ∧ i < es.length ∧ (es.getD i.toNat []).length = s then some (.d (.eptr (es.getD i.toNat []) 0)) else none

def iaA (P : Program) (t : TypeId) (x i : AV) : Option AV :=
  match tk P t, i with
  | some (.slice e), .d (.int _ j) =>
    match tsz P e with
    | some s =>
      match x with
      | .d (.sl _ es) => elA s es j
      | .tsl _ es => elA s es j
      | .bsl id off len _ => if 0 ≤ j ∧ j < len then some (.ptr id (off + j.toNat * s)) else none
      | _ => none
    | none => none
  | some (.array m e), .d (.int _ j) =>
    match tsz P e with
    | some s =>
      if 0 ≤ j ∧ j < m then
        match x with
        | .ptr id off => some (.ptr id (off + j.toNat * s))
        | .d (.eptr cs off) => some (.d (.eptr cs (off + j.toNat * s)))
        | _ => none
      else none
    | none => none
  | _, _ => none

theorem elA_sound {t e : TypeId} {s : Nat} {es : List (List DV)} {k : IntKind} {j : Int} {r : AV} {v : Value} (ht : P.underlying t = some (.slice e)) (hs : tsz P e = some s)
    (h : elA s es j = some r) (hx : Rel K (.sl .any es) v) (w : World) : ∃ u, (Instr.indexAt t v (.int k j)).run P w = .ok u w ∧ RelA K ι n r u := by
  unfold elA at h
  split at h
  · rename_i hc
    obtain ⟨h0, h1, h2⟩ := hc
    simp only [Option.some.injEq] at h; subst h
    have hj : j.toNat < es.length := by omega
    cases hx with
    | slnil => simp at hj
    | sl _ _ a cap sz val hst hf hcap hz hK hr =>
      have hsz := hz _ hj
      have hss : sz = s := by omega
      subst hss
      refine ⟨.pointer (some (a.add (j.toNat * sz))), ?_, ?_⟩
      · simp [Instr.indexAt, asIntOf, run_underlying ht, h0, h1, run_sizeOf' hs]
      · rw [show a.add (j.toNat * sz) = (a.add (j.toNat * sz)).add 0 from by simp [Addr.add]]
        refine .d _ _ (.eptr _ _ _ (fun q => val j.toNat q) (fun q hq => ?_) (fun q hq => hr _ _ hj (by omega)))
        rw [Addr.add_add]
        exact hK _ _ hj (by omega)
  · contradiction

theorem iaA_sound {t : TypeId} {x i r : AV} {vx vi : Value} (h : iaA P t x i = some r) (hx : RelA K ι n x vx) (hi : RelA K ι n i vi) (w : World) :
    ∃ u, (Instr.indexAt t vx vi).run P w = .ok u w ∧ RelA K ι n r u := by
  unfold iaA at h
  split at h
  · rename_i e k j hk
    have ht := tk_slice hk
    have hg := hi.get
    cases hg
    split at h
    · rename_i s hs
      split at h
      · exact elA_sound ht hs h hx.get.any w
      · cases hx with
        | tsl _ _ _ hx' _ _ _ => exact elA_sound ht hs h hx' w
      · rename_i id off len cap
        split at h
        · rename_i hc
          simp only [Option.some.injEq] at h; subst h
          cases hx with
          | bsl _ _ _ _ hid =>
            refine ⟨_, by simp [Instr.indexAt, asIntOf, run_underlying ht, hc.1, hc.2, run_sizeOf' hs]; rfl, ?_⟩
            rw [Addr.add_mk]
            exact .ptr _ _ hid
        · contradiction
      · contradiction
    · contradiction
  · rename_i m e k j hk
    have ht := tk_array hk
    have hg := hi.get
    cases hg
    split at h
    · rename_i s hs
      split at h
      · rename_i hc
        split at h
        · rename_i id off
          simp only [Option.some.injEq] at h; subst h
          cases hx with
          | ptr _ _ hid =>
            refine ⟨_, by simp [Instr.indexAt, asIntOf, run_underlying ht, hc.1, hc.2, run_sizeOf' hs, Instr.sureAddr]; rfl, ?_⟩
            rw [Addr.add_mk]
            exact .ptr _ _ hid
        · rename_i cs off
          simp only [Option.some.injEq] at h; subst h
          have hg := hx.get
          cases hg with
          | eptr _ _ a val hK hr =>
            refine ⟨_, by simp [Instr.indexAt, asIntOf, run_underlying ht, hc.1, hc.2, run_sizeOf' hs, Instr.sureAddr]; rfl, ?_⟩
            rw [Addr.add_add]
            exact .d _ _ (.eptr _ _ _ _ hK hr)
        · contradiction
      · contradiction
    · contradiction
  · contradiction

def ixA (P : Program) (t : TypeId) (x i : AV) : Option AV :=
  match tk P t, x, i with
  | some .string, .d (.str s), .d (.int _ j) => if 0 ≤ j ∧ j < s.length then some (.d (.int .u8 ((s.getD j.toNat 0).toNat : Nat))) else none
  | some (.array m e), .d (.agg cs), .d (.int _ j) =>
    match tsz P e with
    | some z => if 0 ≤ j ∧ j < m then partA P e (cs.map .d) (j.toNat * z) else none
    | none => none
  | some (.array m e), .agg cs, .d (.int _ j) =>
    match tsz P e with
    | some z => if 0 ≤ j ∧ j < m then partA P e cs (j.toNat * z) else none
    | none => none
  | _, _, _ => none

theorem ixA_sound {t : TypeId} {x i r : AV} {vx vi : Value} (h : ixA P t x i = some r) (hx : RelA K ι n x vx) (hi : RelA K ι n i vi) (w : World) :
    ∃ u, (Instr.index t vx vi).run P w = .ok u w ∧ RelA K ι n r u := by
  unfold ixA at h
  split at h
  · rename_i s k j hk
    have hg := hi.get
    cases hg
    have hg := hx.get
    cases hg
    split at h
    · rename_i hc
      simp only [Option.some.injEq] at h; subst h
      refine ⟨.int .u8 (s.getD j.toNat 0).toNat, ?_, .d _ _ (.int _ _)⟩
      have hlt : j.toNat < (⟨s.toArray⟩ : ByteArray).size := by simp [ByteArray.size]; omega
      have hb : (⟨s.toArray⟩ : ByteArray)[j.toNat]? = some (s.getD j.toNat 0) := by
        rw [ByteArray.getElem?_lt' _ _ hlt]
        simp [ByteArray.getElem_eq_getElem_data, List.getD_eq_getElem?_getD, show j.toNat < s.length from by omega]
      simp [Instr.index, asIntOf, run_underlying (tk_string hk), hc.1, hb]
    · contradiction
  · rename_i m e cs k j hk
    have hg := hi.get
    cases hg
    have hg := hx.get
    split at h
    · rename_i z hz
      split at h
      · rename_i hc
        cases hg with
        | agg _ vs hl hr =>
          obtain ⟨y, hy, hy2⟩ := part_sound (P := P) (K := K) (ι := ι) (n := n) (vs := vs) h (by simpa using hl) (fun i hi => by
            rw [getD_map' AV.d cs i .nilp _ (by simpa using hi)]
            exact .d _ _ (hr i (by simpa using hi))) w
          exact ⟨y, by simp [Instr.index, asIntOf, run_underlying (tk_array hk), hc.1, hc.2, run_sizeOf' hz, hy], hy2⟩
      · contradiction
    · contradiction
  · rename_i m e cs k j hk
    have hg := hi.get
    cases hg
    split at h
    · rename_i z hz
      split at h
      · rename_i hc
        cases hx with
        | agg _ vs hl hr =>
          obtain ⟨y, hy, hy2⟩ := part_sound (P := P) (K := K) (ι := ι) (n := n) (vs := vs) h hl hr w
          exact ⟨y, by simp [Instr.index, asIntOf, run_underlying (tk_array hk), hc.1, hc.2, run_sizeOf' hz, hy], hy2⟩
      · contradiction
    · contradiction
  · contradiction

/-! Cuts -/
def asI : AV → Option Int
  | .d (.int _ j) => some j
  | _ => none

theorem asI_some {x : AV} {j : Int} (h : asI x = some j) : ∃ k, x = .d (.int k j) := by
  unfold asI at h
  split at h
  · simp only [Option.some.injEq] at h; subst h; exact ⟨_, rfl⟩
  · contradiction

/-- The two bounds of a cut of something of a length. -/
def bdA (len : Nat) (lo hi : Option AV) : Option (Nat × Nat) :=
  match (match hi with | none => some (len : Int) | some x => asI x), (match lo with | none => some (0 : Int) | some x => asI x) with
  | some h, some l => if 0 ≤ l ∧ l ≤ h ∧ h ≤ len then some (l.toNat, h.toNat) else none
  | _, _ => none

def strCut (s : List UInt8) (l h : Nat) : List UInt8 := (s.take h).drop l

inductive RelO (K : Mem) (ι : Nat → Pl) (n : Nat) : Option AV → Option Value → Prop
  | none : RelO K ι n none none
  | some (x : AV) (v : Value) (h : RelA K ι n x v) : RelO K ι n (some x) (some v)

theorem bounds_sound {isSlice : Bool} {len cap : Nat} {lo hi : Option AV} {vl vh : Option Value} {l h : Nat} (hb : bdA len lo hi = some (l, h)) (hcap : len ≤ cap) (hne : isSlice = false → cap = len)
    (hl : RelO K ι n lo vl) (hh : RelO K ι n hi vh) (w : World) : (Instr.sliceBounds isSlice len cap vl vh none).run P w = .ok (l, h, cap) w ∧ l ≤ h ∧ h ≤ len := by
  unfold bdA at hb
  cases hh with
  | none =>
    cases hl with
    | none =>
      simp only at hb
      split at hb
      · rename_i hc
        simp only [Option.some.injEq, Prod.mk.injEq] at hb
        obtain ⟨rfl, rfl⟩ := hb
        exact ⟨by simp [Instr.sliceBounds], by omega, by omega⟩
      · contradiction
    | some x v hx =>
      simp only at hb
      cases ha : asI x with
      | none => rw [ha] at hb; contradiction
      | some j =>
        rw [ha] at hb
        obtain ⟨k, rfl⟩ := asI_some ha
        have hg := hx.get
        cases hg
        simp only at hb
        split at hb
        · rename_i hc
          simp only [Option.some.injEq, Prod.mk.injEq] at hb
          obtain ⟨rfl, rfl⟩ := hb
          refine ⟨?_, by omega, by omega⟩
          simp [Instr.sliceBounds, run_sliceBound (P := P) w k j len .sliceB hc.1 (by omega)]
        · contradiction
  | some y u hy =>
    simp only at hb
    cases hah : asI y with
    | none => rw [hah] at hb; contradiction
    | some jh =>
      rw [hah] at hb
      obtain ⟨kh, rfl⟩ := asI_some hah
      have hg := hy.get
      cases hg
      cases hl with
      | none =>
        simp only at hb
        split at hb
        · rename_i hc
          simp only [Option.some.injEq, Prod.mk.injEq] at hb
          obtain ⟨rfl, rfl⟩ := hb
          refine ⟨?_, by omega, by omega⟩
          simp [Instr.sliceBounds, run_sliceBound (P := P) w kh jh cap _ (by omega) (by omega)]
        · contradiction
      | some x v hx =>
        simp only at hb
        cases ha : asI x with
        | none => rw [ha] at hb; contradiction
        | some j =>
          rw [ha] at hb
          obtain ⟨k, rfl⟩ := asI_some ha
          have hg := hx.get
          cases hg
          simp only at hb
          split at hb
          · rename_i hc
            simp only [Option.some.injEq, Prod.mk.injEq] at hb
            obtain ⟨rfl, rfl⟩ := hb
            refine ⟨?_, by omega, by omega⟩
            simp [Instr.sliceBounds, run_sliceBound (P := P) w kh jh cap _ (by omega) (by omega), run_sliceBound (P := P) w k j jh.toNat .sliceB hc.1 (by omega)]
          · contradiction

/-- All elements have so many cells. -/
def szOk (z : Nat) (es : List (List DV)) : Bool := es.all (fun c => c.length == z)

theorem szOk_map {α : Type} {z : Nat} (f : α → List DV) (xs : List α) (h : ∀ x, (f x).length = z) : szOk z (xs.map f) = true := by
  simp [szOk, h]
theorem szOk_nil (z : Nat) : szOk z [] = true := rfl
theorem szOk_cons (z : Nat) (c : List DV) (es : List (List DV)) : szOk z (c :: es) = (c.length == z && szOk z es) := by simp [szOk]
theorem szOk_append (z : Nat) (es es' : List (List DV)) : szOk z (es ++ es') = (szOk z es && szOk z es') := by simp [szOk]
theorem szOk_take (z k : Nat) (es : List (List DV)) (h : szOk z es = true) : szOk z (es.take k) = true := by
  simp only [szOk, List.all_eq_true] at *
  exact fun c hc => h c (List.mem_of_mem_take hc)
theorem szOk_drop (z k : Nat) (es : List (List DV)) (h : szOk z es = true) : szOk z (es.drop k) = true := by
  simp only [szOk, List.all_eq_true] at *
  exact fun c hc => h c (List.mem_of_mem_drop hc)
theorem szOk_get {z : Nat} {es : List (List DV)} (h : szOk z es = true) {i : Nat} (hi : i < es.length) : (es.getD i []).length = z := by
  simp only [szOk, List.all_eq_true] at h
  have := h es[i] (List.getElem_mem hi)
  simp [List.getD_eq_getElem?_getD, hi]
  simpa using this

def slA (P : Program) (t : TypeId) (x : AV) (lo hi mx : Option AV) : Option AV :=
  match tk P t, mx with
  | some .string, none =>
    match x with
    | .d (.str s) =>
      match bdA s.length lo hi with
      | some (l, h) => some (.d (.str (strCut s l h)))
      | none => none
    | _ => none
  | some (.slice e), none =>
    match tsz P e with
    | some z =>
      match x with
      | .d (.sl _ es) =>
        if szOk z es then
        match bdA es.length lo hi with
        | some (l, h) => some (.d (.sl .any ((es.take h).drop l)))
        | none => none
        else none
      | .tsl _ es =>
        if szOk z es then
        match bdA es.length lo hi with
        | some (l, h) => some (.d (.sl .any ((es.take h).drop l)))
        | none => none
        else none
      | .bsl id off len cap =>
        if len ≤ cap then
        match bdA len lo hi with
        | some (l, h) => some (.bsl id (if cap = l then off else off + l * z) (h - l) (cap - l))
        | none => none
        else none
      | _ => none
    | none => none
  | some (.slice e), some m =>
    match tsz P e, (match x with | .d (.sl _ es) => some es | .tsl _ es => some es | _ => none), asI m, (match hi with | some h => asI h | none => none), (match lo with | none => some (0 : Int) | some x => asI x) with
    | some z, some es, some m, some h, some l =>
      if szOk z es then
        if 0 ≤ l ∧ l ≤ h ∧ h ≤ m ∧ m ≤ es.length then some (.d (.sl (if h = m then .full else .any) ((es.take h.toNat).drop l.toNat))) else none
      else none
    | _, _, _, _, _ => none
  | _, _ => none

theorem extract_str (s : List UInt8) (l h : Nat) : (⟨s.toArray⟩ : ByteArray).extract l h = ⟨(strCut s l h).toArray⟩ := by
  apply ByteArray.ext
  simp [strCut, ByteArray.data_extract, List.extract_eq_take_drop, List.drop_take]

theorem sl_cut {st' : St} {es : List (List DV)} {a : Addr} {cap' l h sz : Nat} {val : Nat → Nat → Value} (hst' : st' ≠ .nil) (hf' : st' = .full → cap' = h - l) (hle : l ≤ h) (hh : h ≤ es.length) (hcap : h - l ≤ cap')
    (hz : ∀ i, i < es.length → (es.getD i []).length = sz) (hK : ∀ i j, i < es.length → j < sz → K (a.add (i * sz + j)) = some (val i j))
    (hr : ∀ i j, i < es.length → j < sz → Rel K ((es.getD i []).getD j .nilp) (val i j)) (b : Addr) (hb : b = a.add (l * sz) ∨ h = l) :
    Rel K (.sl st' ((es.take h).drop l)) (.slice (some b) (h - l) cap') := by
  have hlen : ((es.take h).drop l).length = h - l := by simp; omega
  have hget : ∀ i, i < h - l → ((es.take h).drop l).getD i [] = es.getD (l + i) [] := fun i hi => by
    simp only [List.getD_eq_getElem?_getD, List.getElem?_drop, List.getElem?_take]
    rw [if_pos (by omega)]
  have := Rel.sl (K := K) st' ((es.take h).drop l) b cap' sz (fun i j => val (l + i) j) hst' (by rw [hlen]; exact hf') (by omega)
    (fun i hi => by rw [hget i (by omega)]; exact hz _ (by omega))
    (fun i j hi hj => by
      rcases hb with rfl | rfl
      · rw [Addr.add_add, show l * sz + (i * sz + j) = (l + i) * sz + j from by rw [Nat.add_mul, Nat.add_assoc]]
        exact hK _ _ (by omega) hj
      · omega)
    (fun i j hi hj => by rw [hget i (by omega)]; exact hr _ _ (by omega) hj)
  rwa [hlen] at this

theorem addr_case {m l : Nat} {a : Addr} {z : Nat} (b : Addr) (hb : b = if m = l then a else a.add (l * z)) (h : Nat) (hm : h ≤ m) (hl : l ≤ h) : b = a.add (l * z) ∨ h = l := by
  split at hb
  · right; omega
  · left; exact hb

theorem sl_main {es : List (List DV)} {v : Value} {l q z : Nat} {t e : TypeId} {lo hi : Option AV} {vl vh : Option Value} (ht : P.underlying t = some (.slice e)) (hz : tsz P e = some z)
    (hsz : szOk z es = true) (hr : Rel K (.sl .any es) v) (hb : bdA es.length lo hi = some (l, q)) (hl : RelO K ι n lo vl) (hh : RelO K ι n hi vh) (w : World) :
    ∃ u, (Instr.sliceAt t v vl vh none).run P w = .ok u w ∧ Rel K (.sl .any ((es.take q).drop l)) u := by
  cases hr with
  | slnil =>
    obtain ⟨hr, h1, h2⟩ := bounds_sound (P := P) (K := K) (ι := ι) (n := n) (isSlice := true) (cap := 0) hb (Nat.le_refl _) (fun _ => rfl) hl hh w
    simp only [List.length_nil, Nat.le_zero_eq] at h2 hr
    subst h2
    obtain rfl : l = 0 := by omega
    refine ⟨.slice none 0 0, ?_, by simpa using Rel.slnil _⟩
    simp [Instr.sliceAt, Instr.slice, run_underlying ht, hr, run_sizeOf' hz]
  | sl _ _ a cap sz val hst hf hcap hzz hK hrr =>
    obtain ⟨hr, h1, h2⟩ := bounds_sound (P := P) (K := K) (ι := ι) (n := n) (isSlice := true) hb hcap (by simp) hl hh w
    refine ⟨.slice (some (if cap = l then a else a.add (l * z))) (q - l) (cap - l), ?_, ?_⟩
    · simp only [Instr.sliceAt, Instr.slice, Sem.run_bind, run_underlying ht, Result.andThen_ok, hr, run_sizeOf' hz, Sem.run_pure]
      congr 2
      split <;> rfl
    · by_cases hes : es.length = 0
      · obtain rfl : es = [] := List.length_eq_zero_iff.1 hes
        obtain rfl : q = 0 := by simpa using h2
        obtain rfl : l = 0 := by omega
        have := Rel.sl (K := K) .any [] (if cap = 0 then a else a.add (0 * z)) cap 0 (fun _ _ => undef) (by simp) (by simp) (by simp) (by simp) (by simp) (by simp)
        simpa using this
      · have h1' := hzz 0 (by omega)
        have h2' := szOk_get hsz (i := 0) (by omega)
        obtain rfl : sz = z := by omega
        exact sl_cut (st' := .any) (by simp) (by simp) h1 h2 (by omega) hzz hK hrr _ (addr_case (m := cap) _ rfl q (by omega) h1)

theorem sl_main3 {es : List (List DV)} {v : Value} {z : Nat} {l h m : Int} {kh km : IntKind} {t e : TypeId} {lo : Option AV} {vl : Option Value} (ht : P.underlying t = some (.slice e)) (hz : tsz P e = some z)
    (hsz : szOk z es = true) (hr : Rel K (.sl .any es) v) (hlo : (match lo with | none => some (0 : Int) | some x => asI x) = some l) (hl : RelO K ι n lo vl) (hb : 0 ≤ l ∧ l ≤ h ∧ h ≤ m ∧ m ≤ es.length) (w : World) :
    ∃ u, (Instr.sliceAt t v vl (some (.int kh h)) (some (.int km m))).run P w = .ok u w ∧ Rel K (.sl (if h = m then .full else .any) ((es.take h.toNat).drop l.toNat)) u := by
  obtain ⟨b0, b1, b2, b3⟩ := hb
  have hbounds : ∀ cap : Nat, es.length ≤ cap → (Instr.sliceBounds true es.length cap vl (some (.int kh h)) (some (.int km m))).run P w = .ok (l.toNat, h.toNat, m.toNat) w := by
    intro cap hcap
    cases hl with
    | none =>
      simp only [Option.some.injEq] at hlo; subst hlo
      simp [Instr.sliceBounds, run_sliceBound (P := P) w km m cap _ (by omega) (by omega), run_sliceBound (P := P) w kh h m.toNat _ (by omega) (by omega)]
    | some x u hx =>
      obtain ⟨k, rfl⟩ := asI_some hlo
      have hg := hx.get
      cases hg
      simp [Instr.sliceBounds, run_sliceBound (P := P) w km m cap _ (by omega) (by omega), run_sliceBound (P := P) w kh h m.toNat _ (by omega) (by omega), run_sliceBound (P := P) w k l h.toNat _ b0 (by omega)]
  have hst : (if h = m then St.full else St.any) ≠ .nil := by split <;> simp
  have hfu : (if h = m then St.full else St.any) = .full → m.toNat - l.toNat = h.toNat - l.toNat := by
    split
    · rename_i e; intro _; omega
    · simp
  cases hr with
  | slnil =>
    simp only [List.length_nil] at b3
    have e1 : l = 0 := by omega
    have e2 : h = 0 := by omega
    have e3 : m = 0 := by omega
    subst e1 e2 e3
    refine ⟨.slice none 0 0, ?_, by simpa using Rel.slnil _⟩
    have := hbounds 0 (by simp)
    simp only [List.length_nil] at this
    simp [Instr.sliceAt, Instr.slice, run_underlying ht, this, run_sizeOf' hz]
  | sl _ _ a cap sz val hst0 hf hcap hzz hK hrr =>
    refine ⟨.slice (some (if m.toNat = l.toNat then a else a.add (l.toNat * z))) (h.toNat - l.toNat) (m.toNat - l.toNat), ?_, ?_⟩
    · simp only [Instr.sliceAt, Instr.slice, Sem.run_bind, run_underlying ht, Result.andThen_ok, hbounds cap hcap, run_sizeOf' hz, Sem.run_pure]
      congr 2
      split <;> rfl
    · by_cases hes : es.length = 0
      · obtain rfl : es = [] := List.length_eq_zero_iff.1 hes
        simp only [List.length_nil] at b3
        have e1 : l = 0 := by omega
        have e2 : h = 0 := by omega
        have e3 : m = 0 := by omega
        subst e1 e2 e3
        have := Rel.sl (K := K) .full [] a 0 0 (fun _ _ => undef) (by simp) (by simp) (by simp) (by simp) (by simp) (by simp)
        simpa using this
      · have h1' := hzz 0 (by omega)
        have h2' := szOk_get hsz (i := 0) (by omega)
        obtain rfl : sz = z := by omega
        exact sl_cut hst hfu (by omega) (by omega) (by omega) hzz hK hrr _ (addr_case (m := m.toNat) _ rfl h.toNat (by omega) (by omega))

theorem slA_sound {t : TypeId} {x r : AV} {lo hi mx : Option AV} {vx : Value} {vl vh vm : Option Value} (h : slA P t x lo hi mx = some r) (hx : RelA K ι n x vx)
    (hl : RelO K ι n lo vl) (hh : RelO K ι n hi vh) (hm : RelO K ι n mx vm) (w : World) : ∃ u, (Instr.sliceAt t vx vl vh vm).run P w = .ok u w ∧ RelA K ι n r u := by
  unfold slA at h
  split at h
  · rename_i hk
    cases hm
    have ht := tk_string hk
    split at h
    · rename_i s
      have hg := hx.get
      cases hg
      split at h
      · rename_i l q hb
        simp only [Option.some.injEq] at h; subst h
        have hsz : (⟨s.toArray⟩ : ByteArray).size = s.length := by simp [ByteArray.size]
        obtain ⟨hr, _, _⟩ := bounds_sound (P := P) (K := K) (ι := ι) (n := n) (isSlice := false) hb (Nat.le_refl _) (fun _ => rfl) hl hh w
        refine ⟨.string ((⟨s.toArray⟩ : ByteArray).extract l q), ?_, ?_⟩
        · simp [Instr.sliceAt, Instr.slice, run_underlying ht, hsz, hr]
        · rw [extract_str]; exact .d _ _ (.str _)
      · contradiction
    · contradiction
  · rename_i e hk
    cases hm
    have ht := tk_slice hk
    split at h
    · rename_i z hz
      split at h
      · split at h
        · rename_i hsz
          split at h
          · rename_i l q hb
            simp only [Option.some.injEq] at h; subst h
            obtain ⟨u, hu, hu2⟩ := sl_main ht hz hsz hx.get.any hb hl hh w
            exact ⟨u, hu, .d _ _ hu2⟩
          · contradiction
        · contradiction
      · split at h
        · rename_i hsz
          split at h
          · rename_i l q hb
            simp only [Option.some.injEq] at h; subst h
            cases hx with
            | tsl _ _ _ hx' _ _ _ =>
              obtain ⟨u, hu, hu2⟩ := sl_main ht hz hsz hx' hb hl hh w
              exact ⟨u, hu, .d _ _ hu2⟩
          · contradiction
        · contradiction
      · rename_i id off len cap
        split at h
        · rename_i hlc
          split at h
          · rename_i l q hb
            simp only [Option.some.injEq] at h; subst h
            cases hx with
            | bsl _ _ _ _ hid =>
              obtain ⟨hr, h1, h2⟩ := bounds_sound (P := P) (K := K) (ι := ι) (n := n) (isSlice := true) hb hlc (by simp) hl hh w
              refine ⟨.slice (some (if cap = l then ⟨(ι id).block, off, none⟩ else (⟨(ι id).block, off, none⟩ : Addr).add (l * z))) (q - l) (cap - l), ?_, ?_⟩
              · simp only [Instr.sliceAt, Instr.slice, Sem.run_bind, run_underlying ht, Result.andThen_ok, hr, run_sizeOf' hz, Sem.run_pure]
                congr 2
                split <;> rfl
              · split
                · exact .bsl _ _ _ _ hid
                · rw [Addr.add_mk]; exact .bsl _ _ _ _ hid
          · contradiction
        · contradiction
      · contradiction
    · contradiction
  · rename_i e m hk
    have ht := tk_slice hk
    split at h
    · rename_i z es jm jh jl hz hes hjm hjh hjl
      split at h
      · rename_i hsz
        split at h
        · rename_i hb
          simp only [Option.some.injEq] at h; subst h
          obtain ⟨km, rfl⟩ := asI_some hjm
          cases hm with
          | some _ vm hm =>
            have hg := hm.get
            cases hg
            cases hh with
            | none => simp at hjh
            | some y vh hh =>
              obtain ⟨kh, rfl⟩ := asI_some hjh
              have hg := hh.get
              cases hg
              have hre : Rel K (.sl .any es) vx := by
                split at hes
                · simp only [Option.some.injEq] at hes; subst hes; exact hx.get.any
                · simp only [Option.some.injEq] at hes; subst hes
                  cases hx with
                  | tsl _ _ _ hx' _ _ _ => exact hx'
                · contradiction
              obtain ⟨u, hu, hu2⟩ := sl_main3 ht hz hsz hre hjl hl hb w
              exact ⟨u, hu, .d _ _ hu2⟩
        · contradiction
      · contradiction
    · contradiction
  · contradiction

/-! The others -/
def exA (x : AV) (i : Nat) : Option AV :=
  match x with
  | .d (.tup xs) => match xs[i]? with | some y => some (.d y) | none => none
  | .tup xs => xs[i]?
  | _ => none

theorem exA_sound {x r : AV} {i : Nat} {v : Value} (h : exA x i = some r) (hx : RelA K ι n x v) (w : World) : ∃ u, (Instr.extract v i).run P w = .ok u w ∧ RelA K ι n r u := by
  unfold exA at h
  split at h
  · rename_i xs
    split at h
    · rename_i y hy
      simp only [Option.some.injEq] at h; subst h
      have hg := hx.get
      cases hg with
      | tup _ vs hl hr =>
        have hlt : i < xs.length := by
          by_cases hc : i < xs.length
          · exact hc
          · rw [List.getElem?_eq_none (by omega)] at hy; contradiction
        have := hr i hlt
        rw [List.getD_eq_getElem?_getD, hy] at this
        refine ⟨vs.getD i undef, ?_, .d _ _ this⟩
        have hv : vs[i]? = some (vs.getD i undef) := by simp [Array.getD, hl, hlt]
        simp only [Instr.extract]
        rw [hv]
        rfl
    · contradiction
  · rename_i xs
    cases hx with
    | tup _ vs hl hr =>
      have hlt : i < xs.length := by
        by_cases hc : i < xs.length
        · exact hc
        · rw [List.getElem?_eq_none (by omega)] at h; contradiction
      have := hr i hlt
      rw [List.getD_eq_getElem?_getD, h] at this
      refine ⟨vs.getD i undef, ?_, this⟩
      have hv : vs[i]? = some (vs.getD i undef) := by simp [Array.getD, hl, hlt]
      simp only [Instr.extract]
      rw [hv]
      rfl
  · contradiction

def lenA (x : AV) : Option AV :=
  match x with
  | .d (.str s) => some (.d (.int .i64 s.length))
  | .d (.sl _ es) => some (.d (.int .i64 es.length))
  | .tsl _ es => some (.d (.int .i64 es.length))
  | .bsl _ _ len _ => some (.d (.int .i64 len))
  | _ => none

/-- The kind of type that 'len' takes at such a value. -/
def lenK (x : AV) : TK → Bool
  | .string => match x with | .d (.str _) => true | _ => false
  | .slice _ => match x with | .d (.str _) => false | _ => true
  | _ => false

theorem lenA_sound {t : TypeId} {k : TK} {x r : AV} {v : Value} (hk : tk P t = some k) (hkk : lenK x k = true) (h : lenA x = some r) (hx : RelA K ι n x v) (ty : TypeId) (w : World) :
    ∃ u, (Builtin.len_ #[t] ty #[v]).run P w = .ok u w ∧ RelA K ι n r u := by
  unfold lenA at h
  split at h
  · rename_i s
    cases k <;> simp [lenK] at hkk
    simp only [Option.some.injEq] at h; subst h
    have hg := hx.get
    cases hg
    have hs : (⟨s.toArray⟩ : ByteArray).size = s.length := by simp [ByteArray.size]
    refine ⟨goInt (⟨s.toArray⟩ : ByteArray).size, by simp [Builtin.len_, run_underlying (tk_string hk)], ?_⟩
    rw [hs]
    exact .d _ _ (.int _ _)
  · rename_i st es
    cases k <;> simp [lenK] at hkk
    simp only [Option.some.injEq] at h; subst h
    have hg := hx.get
    cases hg with
    | slnil => exact ⟨_, by simp [Builtin.len_, run_underlying (tk_slice hk)]; rfl, .d _ _ (.int _ _)⟩
    | sl => exact ⟨_, by simp [Builtin.len_, run_underlying (tk_slice hk)]; rfl, .d _ _ (.int _ _)⟩
  · rename_i tok es
    cases k <;> simp [lenK] at hkk
    simp only [Option.some.injEq] at h; subst h
    cases hx with
    | tsl _ _ _ hg _ _ _ =>
      cases hg with
      | slnil => exact ⟨_, by simp [Builtin.len_, run_underlying (tk_slice hk)]; rfl, .d _ _ (.int _ _)⟩
      | sl => exact ⟨_, by simp [Builtin.len_, run_underlying (tk_slice hk)]; rfl, .d _ _ (.int _ _)⟩
  · rename_i id off len cap
    cases k <;> simp [lenK] at hkk
    simp only [Option.some.injEq] at h; subst h
    cases hx with
    | bsl _ _ _ _ hid => exact ⟨_, by simp [Builtin.len_, run_underlying (tk_slice hk)]; rfl, .d _ _ (.int _ _)⟩
  · contradiction

def pkA (c a b : AV) : Option AV :=
  match c with
  | .d (.bool t) => some (if t then a else b)
  | _ => none

def nckA (x : AV) : Option AV :=
  match x with
  | .ptr id off => some (.ptr id off)
  | .d (.eptr cs off) => some (.d (.eptr cs off))
  | .d (.func f) => some (.d (.func f))
  | .clo f cs => some (.clo f cs)
  | _ => none

def unA (op : UnOp) (x : AV) : Option AV :=
  match op, x with
  | .not, .d (.bool b) => some (.d (.bool (!b)))
  | .neg, .d (.int k m) => some (.d (.int k (k.wrap (0 - m))))
  | _, _ => none

theorem unA_sound {op : UnOp} {x r : AV} {v : Value} (h : unA op x = some r) (hx : RelA K ι n x v) (w : World) : ∃ u, (Op.unary op v).run P w = .ok u w ∧ RelA K ι n r u := by
  unfold unA at h
  split at h
  · simp only [Option.some.injEq] at h; subst h
    have hg := hx.get
    cases hg
    exact ⟨_, by simp [Op.unary], .d _ _ (.bool _)⟩
  · simp only [Option.some.injEq] at h; subst h
    have hg := hx.get
    cases hg
    exact ⟨_, by simp only [Op.unary, Op.intArith]; rfl, .d _ _ (.int _ _)⟩
  · contradiction

/-- The bytes that the elements of a []byte are. -/
def bytesOf : List (List DV) → Option (List UInt8)
  | [] => some []
  | [.int .u8 m] :: r => match bytesOf r with | some l => some (UInt8.ofNat m.toNat :: l) | none => none
  | _ => none

def byteEl (b : UInt8) : List DV := [.int .u8 (b.toNat : Nat)]

theorem bytesOf_map (l : List UInt8) : bytesOf (l.map byteEl) = some l := by
  induction l with
  | nil => rfl
  | cons b r ih => simp [bytesOf, byteEl, ih]

theorem bytesOf_append {a b : List (List DV)} {x y : List UInt8} (h : bytesOf a = some x) (h' : bytesOf b = some y) : bytesOf (a ++ b) = some (x ++ y) := by
  induction a generalizing x with
  | nil => simp [bytesOf] at h; subst h; simpa using h'
  | cons c r ih =>
    unfold bytesOf at h
    split at h <;> rename_i hc
    · cases hc
    · cases hc
      split at h
      · rename_i l hl
        simp only [Option.some.injEq] at h; subst h
        simp [bytesOf, ih hl]
      · contradiction
    · contradiction

theorem bytesOf_cons {c : List DV} {r : List (List DV)} {x : List UInt8} (h : bytesOf (c :: r) = some x) :
    ∃ m l, c = [.int .u8 m] ∧ bytesOf r = some l ∧ x = UInt8.ofNat m.toNat :: l := by
  unfold bytesOf at h
  split at h <;> rename_i hc
  · cases hc
  · cases hc
    split at h
    · rename_i l hl
      simp only [Option.some.injEq] at h
      exact ⟨_, l, rfl, hl, h.symm⟩
    · contradiction
  · contradiction

theorem run_forIn_b (f : Value → ByteArray → Sem (ForInStep ByteArray)) (hf : ∀ m s, f (.int .u8 m) s = pure (.yield (s.push (UInt8.ofNat m.toNat)))) (w : World) :
    ∀ (es : List (List DV)) (x : List UInt8) (vs : List Value) (s : ByteArray), bytesOf es = some x → vs.length = es.length →
    (∀ i, i < es.length → ∀ j, (es.getD i []).getD j .nilp = .int .u8 j ∨ True) → (∀ i m, i < es.length → es.getD i [] = [.int .u8 m] → vs.getD i undef = .int .u8 m) →
    (forIn vs s f).run P w = .ok ⟨(s.data.toList ++ x).toArray⟩ w := by
  intro es
  induction es with
  | nil =>
    intro x vs s h hl _ _
    simp [bytesOf] at h; subst h
    obtain rfl : vs = [] := List.length_eq_zero_iff.1 hl
    cases s
    simp
  | cons c r ih =>
    intro x vs s h hl _ hv
    obtain ⟨m, l, rfl, hl2, rfl⟩ := bytesOf_cons h
    cases vs with
    | nil => simp at hl
    | cons v vs =>
      have h0 := hv 0 m (by simp) rfl
      simp at h0; subst h0
      simp only [List.forIn_cons, hf, Sem.run_bind, Sem.run_pure, Result.andThen_ok]
      rw [ih l vs (s.push (UInt8.ofNat m.toNat)) hl2 (by simpa using hl) (fun _ _ _ => .inr trivial) (fun i m hi he => by simpa using hv (i + 1) m (by simpa using hi) (by simpa using he))]
      congr 2
      cases s
      simp [ByteArray.push]

def cvB (k : Option TK) (es : List (List DV)) : Option AV :=
  match k with
  | some (.int .u8) => match bytesOf es with | some l => some (.d (.str l)) | none => none
  | _ => none

theorem cvB_some {k : Option TK} {es : List (List DV)} {r : AV} (h : cvB k es = some r) : k = some (.int .u8) ∧ ∃ l, bytesOf es = some l ∧ r = .d (.str l) := by
  unfold cvB at h
  split at h
  · split at h
    · rename_i l hl
      simp only [Option.some.injEq] at h
      exact ⟨rfl, l, hl, h.symm⟩
    · contradiction
  · contradiction

def cvA (P : Program) (src dst : TypeId) (x : AV) : Option AV :=
  match tk P src, tk P dst, x with
  | some (.int _), some (.int k), .d (.int _ m) => some (.d (.int k (k.wrap m)))
  | some .string, some .string, .d (.str s) => some (.d (.str s))
  | some (.slice e), some .string, .d (.sl _ es) => cvB (tk P e) es
  | some (.slice e), some .string, .tsl _ es => cvB (tk P e) es
  | _, _, _ => none

theorem Rel.int_inv {k : IntKind} {m : Int} {v : Value} (h : Rel K (.int k m) v) : v = .int k m := by cases h; rfl

theorem bytes_run {src dst e : TypeId} (hs : P.underlying src = some (.slice e)) (hd : P.underlying dst = some .string) (he : P.underlying e = some (.int .u8)) {es : List (List DV)} {l : List UInt8} {v : Value}
    (hr : Rel K (.sl .any es) v) (hb : bytesOf es = some l) {w : World} (hw : Agree K w) : (convert src dst v).run P w = .ok (.string ⟨l.toArray⟩) w := by
  cases hr with
  | slnil =>
    simp [bytesOf] at hb; subst hb
    simp [convert, run_underlying hs, run_underlying hd, run_underlying he, Conv.bytesToString]
    rfl
  | sl _ _ a cap sz val hst hf hc hz hK hrr =>
    have hval : ∀ i m, i < es.length → es.getD i [] = [.int .u8 m] → sz = 1 ∧ val i 0 = .int .u8 m := fun i m hi he => by
      have h1 := hz i hi
      rw [he] at h1
      simp at h1
      have h2 := hrr i 0 hi (by omega)
      rw [he] at h2
      exact ⟨by omega, h2.int_inv⟩
    by_cases hes : es.length = 0
    · obtain rfl : es = [] := List.length_eq_zero_iff.1 hes
      simp [bytesOf] at hb; subst hb
      simp [convert, run_underlying hs, run_underlying hd, run_underlying he, Conv.bytesToString, loadCells, loadCellsFrom]
      rfl
    · have hall : ∀ (es : List (List DV)) (l : List UInt8), bytesOf es = some l → ∀ i, i < es.length → ∃ m, es.getD i [] = [.int .u8 m] := by
        intro es
        induction es with
        | nil => intro l _ i hi; simp at hi
        | cons c r ih =>
          intro l hb i hi
          obtain ⟨m, l', rfl, hl2, rfl⟩ := bytesOf_cons hb
          cases i with
          | zero => exact ⟨m, rfl⟩
          | succ i => simpa using ih l' hl2 i (by simpa using hi)
      have hone : sz = 1 := by
        obtain ⟨m, hm⟩ := hall es l hb 0 (by omega)
        exact (hval 0 m (by omega) hm).1
      subst hone
      have hload := run_loadCells (P := P) w a es.length (fun i => val i 0) (fun j hj => hw _ _ (by have := hK j 0 hj (by omega); simpa using this))
      have hfor := run_forIn_b (P := P) (fun c s => match c with
          | .int .u8 m => pure (.yield (s.push (UInt8.ofNat m.toNat)))
          | _ => stuck "bytesToString: byte expected") (fun _ _ => rfl) w es l ((List.range es.length).map fun i => val i 0) .empty hb (by simp) (fun _ _ _ => .inr trivial)
          (fun i m hi he => by simp [List.getD_eq_getElem?_getD, hi, (hval i m hi he).2])
      simp only [convert, Sem.run_bind, run_underlying hs, run_underlying hd, run_underlying he, Result.andThen_ok, Conv.bytesToString, hload]
      rw [← Array.forIn_toList]
      simp only []
      first
        | (refine Eq.trans (congrArg (fun r : Result ByteArray => r.andThen fun a w' => (pure (Value.string a) : Sem Value).run P w') hfor) ?_; simp [ByteArray.empty, ByteArray.emptyWithCapacity]; done)
        | (refine Eq.trans (congrArg (fun r : Result ByteArray => r.andThen fun a w' => (pure (Value.string a) : Sem Value).run P w') hfor) ?_; simp [ByteArray.empty, ByteArray.emptyWithCapacity]; rfl)

theorem cvA_sound {src dst : TypeId} {x r : AV} {v : Value} (h : cvA P src dst x = some r) (hx : RelA K ι n x v) {w : World} (hw : Agree K w) : ∃ u, (convert src dst v).run P w = .ok u w ∧ RelA K ι n r u := by
  unfold cvA at h
  split at h
  · rename_i k0 k k1 m hs hd
    simp only [Option.some.injEq] at h; subst h
    have hg := hx.get
    cases hg
    refine ⟨.int k (k.wrap m), ?_, .d _ _ (.int _ _)⟩
    simp [convert, run_underlying (tk_int hs), run_underlying (tk_int hd), Conv.intToInt]
  · rename_i s hs hd
    simp only [Option.some.injEq] at h; subst h
    have hg := hx.get
    cases hg
    exact ⟨_, by simp [convert, run_underlying (tk_string hs), run_underlying (tk_string hd)], .d _ _ (.str _)⟩
  · rename_i e st es hs hd
    obtain ⟨he, l, hl, rfl⟩ := cvB_some h
    exact ⟨_, bytes_run (tk_slice hs) (tk_string hd) (tk_int he) hx.get.any hl hw, .d _ _ (.str _)⟩
  · rename_i e st es hs hd
    obtain ⟨he, l, hl, rfl⟩ := cvB_some h
    cases hx with
    | tsl _ _ _ hg _ _ _ => exact ⟨_, bytes_run (tk_slice hs) (tk_string hd) (tk_int he) hg hl hw, .d _ _ (.str _)⟩
  · contradiction

def mfA (fn : Fn) (first : List AV) (caps : List AV) : Option AV :=
  match fn, first with
  | .func f, [] => match caps with | [] => some (.d (.func f)) | _ => some (.clo f caps)
  | _, _ => none

end
end Go.Proofs.YtjmldlknegbimaaGreatDoor.Sx

/- Pure operations: equality, building, and one step of all of them. Own library, part 5. -/
set_option linter.unusedVariables false
set_option linter.unusedSimpArgs false
namespace Go.Proofs.YtjmldlknegbimaaGreatDoor.Sx
open Go Go.RowKit

section
variable {P : Program} {K : Mem} {ι : Nat → Pl} {n : Nat}

/-! Equality -/
def isNilP : AV → Option Bool
  | .d .nilp => some true
  | .ptr .. => some false
  | .d (.eptr ..) => some false
  | _ => none
def isNilF : AV → Option Bool
  | .d .nilf => some true
  | .d (.func _) => some false
  | .clo .. => some false
  | _ => none
def isNilI : AV → Option Bool
  | .d .nili => some true
  | .d (.ifc ..) => some false
  | _ => none

def nilEq (a b : Option Bool) (c : Bool) : Option Bool :=
  match a, b with
  | some true, some true => if c then some true else none
  | some true, some false => some false
  | some false, some true => some false
  | _, _ => none

def eqA (P : Program) (t : TypeId) (x y : AV) (c : Bool) : Option Bool :=
  match tk P t with
  | some .bool => match x, y with | .d (.bool a), .d (.bool b) => some (a == b) | _, _ => none
  | some (.ptr _) => nilEq (isNilP x) (isNilP y) true
  | some .func => nilEq (isNilF x) (isNilF y) true
  | some .iface => nilEq (isNilI x) (isNilI y) c
  | some (.struct _) => match x, y with | .d (.agg xs), .d (.agg ys) => (match eqOk P t with | some ks => eqCells ks xs ys | none => none) | _, _ => none
  | _ => none

def isC : Operand → Bool
  | .const _ => true
  | _ => false

theorem isNilP_some {x : AV} {v : Value} {b : Bool} (h : isNilP x = some b) (hx : RelA K ι n x v) : (b = true ∧ v = .pointer none) ∨ (b = false ∧ ∃ a, v = .pointer (some a)) := by
  unfold isNilP at h
  split at h
  · simp only [Option.some.injEq] at h; subst h
    have hg := hx.get
    cases hg
    exact .inl ⟨rfl, rfl⟩
  · simp only [Option.some.injEq] at h; subst h
    cases hx
    exact .inr ⟨rfl, _, rfl⟩
  · simp only [Option.some.injEq] at h; subst h
    have hg := hx.get
    cases hg
    exact .inr ⟨rfl, _, rfl⟩
  · contradiction

theorem isNilF_some {x : AV} {v : Value} {b : Bool} (h : isNilF x = some b) (hx : RelA K ι n x v) : (b = true ∧ v = .nilFunc) ∨ (b = false ∧ ∃ f a c, v = .func f a c) := by
  unfold isNilF at h
  split at h
  · simp only [Option.some.injEq] at h; subst h
    have hg := hx.get
    cases hg
    exact .inl ⟨rfl, rfl⟩
  · simp only [Option.some.injEq] at h; subst h
    have hg := hx.get
    cases hg
    exact .inr ⟨rfl, _, _, _, rfl⟩
  · simp only [Option.some.injEq] at h; subst h
    cases hx
    exact .inr ⟨rfl, _, _, _, rfl⟩
  · contradiction

theorem isNilI_some {x : AV} {v : Value} {b : Bool} (h : isNilI x = some b) (hx : RelA K ι n x v) : (b = true ∧ v = .nilIface) ∨ (b = false ∧ ∃ t u, v = .iface t u) := by
  unfold isNilI at h
  split at h
  · simp only [Option.some.injEq] at h; subst h
    have hg := hx.get
    cases hg
    exact .inl ⟨rfl, rfl⟩
  · simp only [Option.some.injEq] at h; subst h
    have hg := hx.get
    cases hg
    exact .inr ⟨rfl, _, _, rfl⟩
  · contradiction

theorem nilEq_some {a b : Option Bool} {c r : Bool} (h : nilEq a b c = some r) : ∃ p q, a = some p ∧ b = some q ∧ (p = true ∨ q = true) ∧ r = (p && q) ∧ (p = true → q = true → c = true) := by
  unfold nilEq at h
  split at h
  · split at h
    · rename_i hc
      simp only [Option.some.injEq] at h; subst h
      exact ⟨true, true, rfl, rfl, .inl rfl, rfl, fun _ _ => hc⟩
    · contradiction
  · simp only [Option.some.injEq] at h; subst h
    exact ⟨true, false, rfl, rfl, .inl rfl, rfl, by simp⟩
  · simp only [Option.some.injEq] at h; subst h
    exact ⟨false, true, rfl, rfl, .inr rfl, rfl, by simp⟩
  · contradiction

theorem tk_iface {t : TypeId} (h : tk P t = some .iface) : ∃ ms, P.underlying t = some (.interface ms) := by
  obtain ⟨d, hd, hk, _⟩ := run_under_tk h
  cases d <;> simp [TK.of] at hk
  exact ⟨_, hd⟩
theorem tk_func {t : TypeId} (h : tk P t = some .func) : ∃ a b c, P.underlying t = some (.func a b c) := by
  obtain ⟨d, hd, hk, _⟩ := run_under_tk h
  cases d <;> simp [TK.of] at hk
  exact ⟨_, _, _, hd⟩

section
variable (w : World) (d : Nat) {t : TypeId}
theorem run_eqIn_p1 {e : TypeId} (ht : P.underlying t = some (.pointer e)) (b : Option Addr) : (Op.equalIn (d + 1) t (.pointer none) (.pointer b)).run P w = .ok b.isNone w := by
  simp only [Op.equalIn, Sem.run_bind, run_underlying ht, Result.andThen_ok]; rfl
theorem run_eqIn_p2 {e : TypeId} (ht : P.underlying t = some (.pointer e)) (a : Addr) : (Op.equalIn (d + 1) t (.pointer (some a)) (.pointer none)).run P w = .ok false w := by
  simp only [Op.equalIn, Sem.run_bind, run_underlying ht, Result.andThen_ok]; rfl
theorem run_eqIn_f1 {x y : Array TypeId} {z : Bool} (ht : P.underlying t = some (.func x y z)) : (Op.equalIn (d + 1) t .nilFunc .nilFunc).run P w = .ok true w := by
  simp only [Op.equalIn, Sem.run_bind, run_underlying ht, Result.andThen_ok]; rfl
theorem run_eqIn_f2 {x y : Array TypeId} {z : Bool} (ht : P.underlying t = some (.func x y z)) (f : Fn) (a c : Array Value) : (Op.equalIn (d + 1) t .nilFunc (.func f a c)).run P w = .ok false w := by
  simp only [Op.equalIn, Sem.run_bind, run_underlying ht, Result.andThen_ok]; rfl
theorem run_eqIn_f3 {x y : Array TypeId} {z : Bool} (ht : P.underlying t = some (.func x y z)) (f : Fn) (a c : Array Value) : (Op.equalIn (d + 1) t (.func f a c) .nilFunc).run P w = .ok false w := by
  simp only [Op.equalIn, Sem.run_bind, run_underlying ht, Result.andThen_ok]; rfl
theorem run_eqIn_i1 {x : Array (String × TypeId)} (ht : P.underlying t = some (.interface x)) : (Op.equalIn (d + 1) t .nilIface .nilIface).run P w = .ok true w := by
  simp only [Op.equalIn, Sem.run_bind, run_underlying ht, Result.andThen_ok]; rfl
theorem run_eqIn_i2 {x : Array (String × TypeId)} (ht : P.underlying t = some (.interface x)) (u : TypeId) (v : Value) : (Op.equalIn (d + 1) t .nilIface (.iface u v)).run P w = .ok false w := by
  simp only [Op.equalIn, Sem.run_bind, run_underlying ht, Result.andThen_ok]; rfl
theorem run_eqIn_i3 {x : Array (String × TypeId)} (ht : P.underlying t = some (.interface x)) (u : TypeId) (v : Value) : (Op.equalIn (d + 1) t (.iface u v) .nilIface).run P w = .ok false w := by
  simp only [Op.equalIn, Sem.run_bind, run_underlying ht, Result.andThen_ok]; rfl
end

theorem eqA_sound {t : TypeId} {x y : AV} {c r : Bool} {vx vy : Value} {ox oy : Operand} (h : eqA P t x y c = some r) (hx : RelA K ι n x vx) (hy : RelA K ι n y vy)
    (hc : c = true → isC ox = true ∨ isC oy = true) (op : BinOp) (hop : op = .eql ∨ op = .neq) (w : World) :
    (do eqGuard op t ox oy vx vy; binOp op t vx vy).run P w = .ok (.bool (if op = .eql then r else !r)) w := by
  have fin : ∀ b : Bool, (Op.equal t vx vy).run P w = .ok b w → (eqGuard op t ox oy vx vy).run P w = .ok () w → (∀ o, binOp .eql t vx vy = (do pure (.bool (← Op.equal t vx vy))) ∧ binOp .neq t vx vy = (do pure (.bool (!(← Op.equal t vx vy)))) ∨ o = 1) →
      (do eqGuard op t ox oy vx vy; binOp op t vx vy).run P w = .ok (.bool (if op = .eql then b else !b)) w := by
    intro b he hg hb
    have hb' := (hb 0).resolve_right (by omega)
    rcases hop with rfl | rfl
    · simp [hg, hb'.1, he]
    · simp [hg, hb'.2, he]
  unfold eqA at h
  split at h
  · rename_i hk
    split at h
    · rename_i a b
      simp only [Option.some.injEq] at h; subst h
      have g1 := hx.get
      have g2 := hy.get
      cases g1
      cases g2
      exact fin _ (run_equalIn_bool w 9999 t _ _ (tk_bool hk)) (by rw [eqGuard_at_bool]; rfl) (fun _ => .inl ⟨rfl, rfl⟩)
    · contradiction
  · rename_i e hk
    obtain ⟨p, q, h1, h2, hpq, rfl, _⟩ := nilEq_some h
    have ht := tk_ptr hk
    rcases isNilP_some h1 hx with ⟨rfl, rfl⟩ | ⟨rfl, a, rfl⟩ <;> rcases isNilP_some h2 hy with ⟨rfl, rfl⟩ | ⟨rfl, b, rfl⟩
    · exact fin _ (run_eqIn_p1 w 9999 ht _) (by rw [eqGuard_at_pointer]; rfl) (fun _ => .inl ⟨rfl, rfl⟩)
    · exact fin _ (run_eqIn_p1 w 9999 ht _) (by rw [eqGuard_at_pointer]; rfl) (fun _ => .inl ⟨rfl, rfl⟩)
    · exact fin _ (run_eqIn_p2 w 9999 ht _) (by rw [eqGuard_at_pointer]; rfl) (fun _ => .inl ⟨rfl, rfl⟩)
    · simp at hpq
  · rename_i hk
    obtain ⟨p, q, h1, h2, hpq, rfl, _⟩ := nilEq_some h
    obtain ⟨ta, tb, tc, ht⟩ := tk_func hk
    rcases isNilF_some h1 hx with ⟨rfl, rfl⟩ | ⟨rfl, f, a, c', rfl⟩ <;> rcases isNilF_some h2 hy with ⟨rfl, rfl⟩ | ⟨rfl, g, b, d', rfl⟩
    · exact fin _ (run_eqIn_f1 w 9999 ht) (by rw [eqGuard_at_nilFunc]; rfl) (fun _ => .inl ⟨rfl, rfl⟩)
    · exact fin _ (run_eqIn_f2 w 9999 ht _ _ _) (by rw [eqGuard_at_nilFunc]; rfl) (fun _ => .inl ⟨rfl, rfl⟩)
    · exact fin _ (run_eqIn_f3 w 9999 ht _ _ _) (by rw [eqGuard_at_func]; rfl) (fun _ => .inl ⟨rfl, rfl⟩)
    · simp at hpq
  · rename_i hk
    obtain ⟨p, q, h1, h2, hpq, rfl, hcc⟩ := nilEq_some h
    obtain ⟨ms, ht⟩ := tk_iface hk
    rcases isNilI_some h1 hx with ⟨rfl, rfl⟩ | ⟨rfl, a, u, rfl⟩ <;> rcases isNilI_some h2 hy with ⟨rfl, rfl⟩ | ⟨rfl, b, v, rfl⟩
    · have hC := hc (hcc rfl rfl)
      refine fin _ (run_eqIn_i1 w 9999 ht) ?_ (fun _ => .inl ⟨rfl, rfl⟩)
      cases ox with
      | const z => rw [eqGuard_nil_constL]; rfl
      | tmp z =>
        cases oy with
        | const z' => rw [eqGuard_nil_constR]; rfl
        | _ => simp [isC] at hC
      | global z =>
        cases oy with
        | const z' => rw [eqGuard_nil_constR]; rfl
        | _ => simp [isC] at hC
      | func z =>
        cases oy with
        | const z' => rw [eqGuard_nil_constR]; rfl
        | _ => simp [isC] at hC
    · exact fin _ (run_eqIn_i2 w 9999 ht _ _) (by rw [eqGuard_nil_iface]; rfl) (fun _ => .inl ⟨rfl, rfl⟩)
    · exact fin _ (run_eqIn_i3 w 9999 ht _ _) (by rw [eqGuard_at_iface]; rfl) (fun _ => .inl ⟨rfl, rfl⟩)
    · simp at hpq
  · rename_i fs hk
    split at h
    · rename_i xs ys
      split at h
      · rename_i ks hks
        have g1 := hx.get
        have g2 := hy.get
        cases g1 with
        | agg _ us hl1 hr1 =>
          cases g2 with
          | agg _ vs hl2 hr2 =>
            unfold eqOk at hks
            rw [hk] at hks
            simp only at hks
            split at hks
            · contradiction
            · rename_i hgt
              have hev := eqCells_vals (us := us.toList) (vs := vs.toList) h (by simpa using hl1) (by simpa using hl2)
                (fun i hi => by rw [getD_toList]; exact hr1 i hi) (fun i hi => by rw [getD_toList]; exact hr2 i hi)
              have hrun := flat_run (P := P) 50 hks 10000 (by omega) _ _ _ hev w
              have hv : ∀ cs : Array Value, valOf P t cs.toList = .agg cs := fun cs => by simp [valOf, hk, TK.isAgg]
              rw [hv, hv] at hrun
              refine fin _ hrun ?_ (fun _ => .inl ⟨rfl, rfl⟩)
              simp only [Bool.not_eq_true] at hgt
              rcases hop with rfl | rfl <;> simp [eqGuard, hgt]
      · contradiction
    · contradiction
  · contradiction

def dOpt (o : Option DV) : Option AV :=
  match o with
  | some x => some (.d x)
  | none => none

def isSh : BinOp → Bool
  | .shl => true
  | .shr => true
  | _ => false

def binA (P : Program) (op : BinOp) (t : TypeId) (x y : AV) (c : Bool) : Option AV :=
  match x, y with
  | .d (.int k a), .d (.int k' b) => if isSh op then dOpt (shA op k a b) else if k = k' then dOpt (intA op k a b) else none
  | .d (.str a), .d (.str b) => dOpt (strA op a b)
  | x, y =>
    match op with
    | .eql => match eqA P t x y c with | some b => some (.d (.bool b)) | none => none
    | .neq => match eqA P t x y c with | some b => some (.d (.bool (!b))) | none => none
    | _ => none

theorem binA_sound {op : BinOp} {t : TypeId} {x y r : AV} {c : Bool} {vx vy : Value} {ox oy : Operand} (h : binA P op t x y c = some r) (hx : RelA K ι n x vx) (hy : RelA K ι n y vy)
    (hc : c = true → isC ox = true ∨ isC oy = true) (w : World) : ∃ u, (do eqGuard op t ox oy vx vy; binOp op t vx vy).run P w = .ok u w ∧ RelA K ι n r u := by
  unfold binA at h
  split at h
  · rename_i k a k' b
    have g1 := hx.get
    have g2 := hy.get
    cases g1
    cases g2
    split at h
    · rename_i hs
      unfold dOpt at h
      split at h
      · rename_i z hz
        simp only [Option.some.injEq] at h; subst h
        obtain ⟨v, hv, hr⟩ := shA_sound (P := P) (yk := k') hz (by cases op <;> simp [isSh] at hs <;> simp) K t w
        exact ⟨v, by rw [eqGuard_at_int]; simpa using hv, .d _ _ hr⟩
      · contradiction
    · rename_i hs
      split at h
      · rename_i hkk
        subst hkk
        unfold dOpt at h
        split at h
        · rename_i z hz
          simp only [Option.some.injEq] at h; subst h
          obtain ⟨v, hv, hr⟩ := intA_sound (P := P) hz (by rintro rfl; simp [isSh] at hs) (by rintro rfl; simp [isSh] at hs) K t w
          exact ⟨v, by rw [eqGuard_at_int]; simpa using hv, .d _ _ hr⟩
        · contradiction
      · contradiction
  · rename_i a b
    have g1 := hx.get
    have g2 := hy.get
    cases g1
    cases g2
    unfold dOpt at h
    split at h
    · rename_i z hz
      simp only [Option.some.injEq] at h; subst h
      obtain ⟨v, hv, hr⟩ := strA_sound (P := P) hz K t w
      exact ⟨v, by rw [eqGuard_at_string]; simpa using hv, .d _ _ hr⟩
    · contradiction
  · split at h
    · split at h
      · rename_i b hb
        simp only [Option.some.injEq] at h; subst h
        have := eqA_sound (P := P) (ox := ox) (oy := oy) hb hx hy hc .eql (.inl rfl) w
        exact ⟨_, this, .d _ _ (.bool _)⟩
      · contradiction
    · split at h
      · rename_i b hb
        simp only [Option.some.injEq] at h; subst h
        have := eqA_sound (P := P) (ox := ox) (oy := oy) hb hx hy hc .neq (.inr rfl) w
        exact ⟨_, this, .d _ _ (.bool _)⟩
      · contradiction
    · contradiction

/-! Building -/
def placeL (P : Program) (t : TypeId) : Option (List (Nat × Nat)) :=
  match P.underlying t with
  | some (.struct Fs) => Fs.toList.mapM (fun f => (P.info? f.type).map fun i => (f.offset, i.size))
  | _ => none

def fillA (place : Nat → Option (Nat × Nat)) (cells : List AV) : List (Nat × AV) → Option (List AV)
  | [] => some cells
  | (i, v) :: rest =>
    match place i, cellsA v with
    | some (off, size), some vc =>
      if vc.length = size ∧ off + size ≤ cells.length then fillA place (cells.take off ++ vc ++ cells.drop (off + size)) rest else none
    | _, _ => none

theorem splice_fold : ∀ (vs : List Value) (cells : Array Value) (off j : Nat), off + j + vs.length ≤ cells.size →
    (vs.zipIdx j).foldl (fun cs (p : Value × Nat) => cs.setIfInBounds (off + p.2) p.1) cells = (cells.toList.take (off + j) ++ vs ++ cells.toList.drop (off + j + vs.length)).toArray
  | [], cells, off, j, h => by simp
  | v :: vs, cells, off, j, h => by
    simp only [List.length_cons] at h
    simp only [List.zipIdx_cons, List.foldl_cons]
    rw [splice_fold vs _ off (j + 1) (by simp; omega)]
    apply Array.ext'
    simp only [Array.toList_setIfInBounds]
    apply List.ext_getElem?
    intro q
    have hlen : (cells.toList.take (off + j)).length = off + j := by simp; omega
    simp only [List.getElem?_append, List.getElem?_take, List.getElem?_drop, List.getElem?_set, List.length_take, List.length_set, List.length_append, List.length_cons, Array.length_toList]
    have e1 : min (off + (j + 1)) cells.size = off + j + 1 := by omega
    have e2 : min (off + j) cells.size = off + j := by omega
    rw [e1, e2]
    by_cases c1 : q < off + j
    · rw [if_pos (by omega), if_pos (by omega), if_pos (by omega), if_neg (by omega), if_pos (by omega), if_pos (by omega), if_pos (by omega)]
    · by_cases c2 : q = off + j
      · subst c2
        rw [if_pos (by omega), if_pos (by omega), if_pos (by omega), if_pos rfl, if_pos (by omega), if_pos (by omega), if_neg (by omega)]
        simp
      · by_cases c3 : q < off + j + 1 + vs.length
        · rw [if_pos (by omega), if_neg (by omega), if_pos (by omega), if_neg (by omega)]
          rw [show q - (off + j) = (q - (off + j + 1)) + 1 from by omega]
          simp
        · rw [if_neg (by omega), if_neg (by omega)]
          rw [if_neg (by omega)]
          congr 1
          omega

theorem fill_sound (place : Nat → Option (Nat × Nat)) : ∀ (parts : List (Nat × AV)) (vparts : List (Nat × Value)) (cells cs : List AV) (vcells : Array Value), fillA place cells parts = some cs →
    vparts.length = parts.length → (∀ (i : Nat) (x : Nat × AV) (y : Nat × Value), parts[i]? = some x → vparts[i]? = some y → x.1 = y.1 ∧ RelA K ι n x.2 y.2) →
    vcells.size = cells.length → (∀ i, i < cells.length → RelA K ι n (cells.getD i .junk) (vcells.getD i undef)) →
    ∃ vcs, Instr.fill place vcells vparts = some vcs ∧ vcs.size = cs.length ∧ ∀ i, i < cs.length → RelA K ι n (cs.getD i .junk) (vcs.getD i undef)
  | [], vparts, cells, cs, vcells, h, hl, hp, hs, hr => by
    simp only [fillA, Option.some.injEq] at h; subst h
    obtain rfl : vparts = [] := List.length_eq_zero_iff.1 hl
    exact ⟨vcells, rfl, hs, hr⟩
  | (i, x) :: parts, vparts, cells, cs, vcells, h, hl, hp, hs, hr => by
    cases vparts with
    | nil => simp at hl
    | cons y vparts =>
      obtain ⟨j, y⟩ := y
      obtain ⟨e, hxy⟩ := hp 0 (i, x) (j, y) rfl rfl
      simp only at e; subst e
      simp only [fillA] at h
      split at h
      · rename_i off size vc hpl hc
        split at h
        · rename_i hcond
          obtain ⟨rfl, hle⟩ := hcond
          obtain ⟨q1, q2⟩ := cellsA_rel hxy hc
          simp only at q1 q2
          have hfold := splice_fold y.cells.toList vcells off 0 (by simp; omega)
          have hlen : (cells.take off ++ vc ++ cells.drop (off + vc.length)).length = cells.length := by simp; omega
          have hvlen : ((vcells.toList.take (off + 0) ++ y.cells.toList ++ vcells.toList.drop (off + 0 + y.cells.toList.length)).toArray).size = cells.length := by simp; omega
          obtain ⟨vcs, f1, f2, f3⟩ := fill_sound place parts vparts _ cs _ h (by simpa using hl) (fun q a b ha hb => hp (q + 1) a b (by simpa using ha) (by simpa using hb)) (by rw [hvlen, hlen]) (by
            intro q hq
            rw [hlen] at hq
            simp only [Array.getD_eq_getD_getElem?, List.getElem?_toArray, List.getD_eq_getElem?_getD, List.getElem?_append, List.length_append, List.length_take, List.getElem?_take, List.getElem?_drop, Nat.add_zero, Array.length_toList]
            rw [show min off cells.length = off from by omega, show min off vcells.size = off from by omega, q1]
            by_cases c1 : q < off
            · rw [if_pos (by omega), if_pos c1, if_pos c1, if_pos (by omega), if_pos c1, if_pos c1]
              have := hr q (by omega)
              simpa [Array.getD_eq_getD_getElem?, List.getD_eq_getElem?_getD] using this
            · by_cases c2 : q < off + vc.length
              · rw [if_pos c2, if_neg c1, if_pos c2, if_neg c1]
                have := q2 (q - off) (by omega)
                simpa [Array.getD_eq_getD_getElem?, List.getD_eq_getElem?_getD] using this
              · rw [if_neg c2, if_neg c2]
                have := hr q (by omega)
                rw [show off + vc.length + (q - (off + vc.length)) = q from by omega]
                simpa [Array.getD_eq_getD_getElem?, List.getD_eq_getElem?_getD] using this)
          refine ⟨vcs, ?_, f2, f3⟩
          have hz : y.cells.zipIdx.toList = y.cells.toList.zipIdx := by simp
          simp only [Instr.fill, hpl]
          rw [if_neg (by simp; omega)]
          rw [← Array.foldl_toList, hz]
          have : (y.cells.toList.zipIdx).foldl (fun cs (x : Value × Nat) => cs.setIfInBounds (off + x.2) x.1) vcells = _ := hfold
          rw [this]
          exact f1
        · contradiction
      · contradiction

def bldA (P : Program) (t : TypeId) (parts : List (Nat × AV)) : Option AV :=
  match tz P t, tk P t with
  | some z, some (.struct _) =>
    match placeL P t with
    | some pl => match fillA (fun i => pl[i]?) (ofVL z.cells.toList) parts with | some cs => some (mkAgg cs) | none => none
    | none => none
  | some z, some (.array _ e) =>
    match tsz P e with
    | some s => match fillA (fun i => some (i * s, s)) (ofVL z.cells.toList) parts with | some cs => some (mkAgg cs) | none => none
    | none => none
  | _, _ => none

theorem bldA_sound {t : TypeId} {parts : List (Nat × AV)} {vparts : Array (Nat × Value)} {r : AV} (h : bldA P t parts = some r) (hl : vparts.size = parts.length)
    (hp : ∀ (i : Nat) (x : Nat × AV) (y : Nat × Value), parts[i]? = some x → vparts.toList[i]? = some y → x.1 = y.1 ∧ RelA K ι n x.2 y.2) (w : World) : ∃ u, (Instr.build t vparts).run P w = .ok u w ∧ RelA K ι n r u := by
  have zrel : ∀ z : Value, z.cells.size = (ofVL z.cells.toList).length ∧ ∀ i, i < (ofVL z.cells.toList).length → RelA K ι n ((ofVL z.cells.toList).getD i .junk) (z.cells.getD i undef) := fun z => by
    refine ⟨by simp [ofVL_length], fun i hi => ?_⟩
    rw [ofVL_length] at hi
    rw [← getD_toList]
    exact ofVL_rel K ι n _ i hi
  unfold bldA at h
  split at h
  · rename_i z fs hz hk
    split at h
    · rename_i pl hpl
      split at h
      · rename_i cs hf
        simp only [Option.some.injEq] at h; subst h
        obtain ⟨vcs, e1, e2, e3⟩ := fill_sound (K := K) (ι := ι) (n := n) _ parts vparts.toList _ cs z.cells hf (by simpa using hl) hp (zrel z).1 (zrel z).2
        refine ⟨.agg vcs, run_build w t vparts vcs ?_, relA_mkAgg e2 e3⟩
        unfold Program.built
        unfold tz at hz
        unfold placeL at hpl
        cases hi : P.info? t with
        | none => rw [hi] at hz; simp at hz
        | some it =>
          rw [hi] at hz
          simp only [Option.bind_some] at hz
          split at hpl
          · rename_i Fs hu
            simp only [hu, hz, hpl]
            simpa using e1
          · contradiction
      · contradiction
    · contradiction
  · rename_i z m e hz hk
    split at h
    · rename_i s hs
      split at h
      · rename_i cs hf
        simp only [Option.some.injEq] at h; subst h
        obtain ⟨vcs, e1, e2, e3⟩ := fill_sound (K := K) (ι := ι) (n := n) _ parts vparts.toList _ cs z.cells hf (by simpa using hl) hp (zrel z).1 (zrel z).2
        refine ⟨.agg vcs, run_build w t vparts vcs ?_, relA_mkAgg e2 e3⟩
        unfold Program.built
        unfold tz at hz
        unfold tsz at hs
        cases hi : P.info? t with
        | none => rw [hi] at hz; simp at hz
        | some it =>
          rw [hi] at hz
          simp only [Option.bind_some] at hz
          cases hie : P.info? e with
          | none => rw [hie] at hs; simp at hs
          | some ie =>
            rw [hie] at hs
            simp only [Option.map_some, Option.some.injEq] at hs
            subst hs
            simp only [tk_array hk, hz, hie]
            exact e1
      · contradiction
    · contradiction
  · contradiction

end
end Go.Proofs.YtjmldlknegbimaaGreatDoor.Sx

/- One pure step, and its soundness. Own library, part 6. -/
set_option linter.unusedVariables false
set_option linter.unusedSimpArgs false
namespace Go.Proofs.YtjmldlknegbimaaGreatDoor.Sx
open Go Go.RowKit

/-- What the package-level variables hold that are read. -/
abbrev Gl := Nat → Option (List DV)

def ev (G : Gl) (e : Env) : Operand → AV
  | .tmp t => e t
  | .const v => ofV v
  | .global g => match G g with | some cs => .d (.eptr cs 0) | none => .junk
  | .func f => .d (.func f)

def GOk (K : Mem) (G : Gl) : Prop := ∀ g cs, G g = some cs → Rel K (.eptr cs 0) (.pointer (some ⟨g, 0, none⟩))

theorem GOk.mono {K K' : Mem} {G : Gl} (h : GOk K G) (hk : Mem.le K K') : GOk K' G := fun g cs e => (h g cs e).mono hk

def minA (x y : AV) : Option AV :=
  match x, y with
  | .d (.int k a), .d (.int _ b) => some (.d (.int k (if b < a then b else a)))
  | _, _ => none
def maxA (x y : AV) : Option AV :=
  match x, y with
  | .d (.int k a), .d (.int _ b) => some (.d (.int k (if b > a then b else a)))
  | _, _ => none

def ldA (P : Program) (t : TypeId) (x : AV) : Option AV :=
  match x with
  | .d (.eptr cs off) => partA P t (cs.map .d) off
  | _ => none

def lnA (P : Program) (t : TypeId) (x : AV) : Option AV :=
  match tk P t with
  | some k => if lenK x k then lenA x else none
  | none => none

def miA (P : Program) (t : TypeId) (x : AV) : Option AV :=
  match x with
  | .d y => if P.concrete t then some (.d (.ifc t y)) else none
  | _ => none

def pst (P : Program) (G : Gl) (e : Env) : Op → Option AV
  | .move x => some (ev G e x)
  | .assign x => some (ev G e x)
  | .pick c a b => pkA (ev G e c) (ev G e a) (ev G e b)
  | .nilCheck x => nckA (ev G e x)
  | .binOp op t x y _ => binA P op t (ev G e x) (ev G e y) (isC x || isC y)
  | .unOp op _ x => unA op (ev G e x)
  | .convert s d x => cvA P s d (ev G e x)
  | .fieldAddr t x f => faA P t (ev G e x) f
  | .field t x f => fieldA P t (ev G e x) f
  | .indexAddr t x i => iaA P t (ev G e x) (ev G e i)
  | .index t x i => ixA P t (ev G e x) (ev G e i)
  | .load t x => ldA P t (ev G e x)
  | .slice t x lo hi mx => slA P t (ev G e x) (lo.map (ev G e)) (hi.map (ev G e)) (mx.map (ev G e))
  | .extract x i => exA (ev G e x) i
  | .makeFunc fn first caps => mfA fn (first.toList.map (ev G e)) (caps.toList.map (ev G e))
  | .build t parts => bldA P t (parts.toList.map fun p => (p.1, ev G e p.2))
  | .makeInterface t x => miA P t (ev G e x)
  | .call ⟨.builtin .len, ⟨[x]⟩, ⟨[t]⟩⟩ => lnA P t (ev G e x)
  | .call ⟨.builtin .min, ⟨[x, y]⟩, _⟩ => minA (ev G e x) (ev G e y)
  | .call ⟨.builtin .max, ⟨[x, y]⟩, _⟩ => maxA (ev G e x) (ev G e y)
  | _ => none

section
variable {P : Program} {K : Mem} {ι : Nat → Pl} {n : Nat} {G : Gl}

theorem ev_rel {e : Env} {a : Act} (hG : GOk K G) (he : ∀ t, RelA K ι n (e t) (a.tmps.getD t undef)) : ∀ x, RelA K ι n (ev G e x) (a.eval x)
  | .tmp t => he t
  | .const v => ofV_rel K ι n v
  | .global g => by
    cases hg : G g with
    | some cs =>
      have : ev G e (.global g) = .d (.eptr cs 0) := by simp [ev, hg]
      rw [this]
      exact .d _ _ (hG g cs hg)
    | none =>
      have : ev G e (.global g) = .junk := by simp [ev, hg]
      rw [this]
      exact .junk _
  | .func f => .d _ _ (.func f)

theorem opt_rel {e : Env} {ρ : Operand → Value} (hρ : ∀ x, RelA K ι n (ev G e x) (ρ x)) (o : Option Operand) : RelO K ι n (o.map (ev G e)) (o.map ρ) := by
  cases o with
  | none => exact .none
  | some x => exact .some _ _ (hρ x)

theorem pst_sound {e : Env} {o : Oper} {r : AV} {ρ : Operand → Value} {w : World} (h : pst P G e o.op = some r) (hρ : ∀ x, RelA K ι n (ev G e x) (ρ x)) (hw : Agree K w) :
    ∃ v, (execOp ρ o).run P w = .ok (.value v) w ∧ RelA K ι n r v := by
  have wrap : ∀ {s : Sem Value} {v : Value}, s.run P w = .ok v w → ((do pure (.value (← s))) : Sem Next).run P w = .ok (.value v) w := fun hs => by simp [hs]
  obtain ⟨dst, op, T, pos, after, guard⟩ := o
  simp only at h
  unfold pst at h
  split at h
  · simp only [Option.some.injEq] at h; subst h
    exact ⟨_, rfl, hρ _⟩
  · simp only [Option.some.injEq] at h; subst h
    exact ⟨_, rfl, hρ _⟩
  · rename_i c a b
    unfold pkA at h
    split at h
    · rename_i t hc
      simp only [Option.some.injEq] at h; subst h
      have hcc := hρ c
      rw [hc] at hcc
      have hg := hcc.get
      generalize hv : ρ c = vc at hg
      cases hg
      refine ⟨if t then ρ a else ρ b, by simp [execOp, hv, asBool], ?_⟩
      cases t
      · exact hρ b
      · exact hρ a
    · contradiction
  · rename_i x
    have hx := hρ x
    unfold nckA at h
    split at h
    · rename_i id off he
      simp only [Option.some.injEq] at h; subst h
      rw [he] at hx
      generalize hv : ρ x = v at hx
      cases hx with
      | ptr _ _ hi => exact ⟨_, by simp only [execOp, hv]; rfl, .ptr _ _ hi⟩
    · rename_i cs off he
      simp only [Option.some.injEq] at h; subst h
      rw [he] at hx
      generalize hv : ρ x = v at hx
      have hg := hx.get
      cases hg with
      | eptr _ _ a val hK hr => exact ⟨_, by simp only [execOp, hv]; rfl, .d _ _ (.eptr _ _ _ _ hK hr)⟩
    · rename_i f he
      simp only [Option.some.injEq] at h; subst h
      rw [he] at hx
      generalize hv : ρ x = v at hx
      have hg := hx.get
      cases hg
      exact ⟨_, by simp only [execOp, hv]; rfl, .d _ _ (.func _)⟩
    · rename_i f cs he
      simp only [Option.some.injEq] at h; subst h
      rw [he] at hx
      generalize hv : ρ x = v at hx
      cases hx with
      | clo _ _ vs hl hr => exact ⟨_, by simp only [execOp, hv]; rfl, .clo _ _ _ hl hr⟩
    · contradiction
  · rename_i op t x y yt
    obtain ⟨u, hu, hr⟩ := binA_sound (P := P) (ox := x) (oy := y) h (hρ x) (hρ y) (by simp) w
    exact ⟨u, wrap hu, hr⟩
  · rename_i op t x
    obtain ⟨u, hu, hr⟩ := unA_sound (P := P) h (hρ x) w
    exact ⟨u, wrap hu, hr⟩
  · rename_i s d x
    obtain ⟨u, hu, hr⟩ := cvA_sound (P := P) h (hρ x) hw
    exact ⟨u, wrap hu, hr⟩
  · rename_i t x f
    obtain ⟨u, hu, hr⟩ := faA_sound (P := P) h (hρ x) w
    exact ⟨u, wrap hu, hr⟩
  · rename_i t x f
    obtain ⟨u, hu, hr⟩ := fieldA_sound (P := P) h (hρ x) w
    exact ⟨u, wrap hu, hr⟩
  · rename_i t x i
    obtain ⟨u, hu, hr⟩ := iaA_sound (P := P) h (hρ x) (hρ i) w
    exact ⟨u, wrap hu, hr⟩
  · rename_i t x i
    obtain ⟨u, hu, hr⟩ := ixA_sound (P := P) h (hρ x) (hρ i) w
    exact ⟨u, wrap hu, hr⟩
  · rename_i t x
    unfold ldA at h
    split at h
    · rename_i cs off he
      have hx := hρ x
      rw [he] at hx
      generalize hv : ρ x = v at hx
      have hg := hx.get
      cases hg with
      | eptr _ _ a val hK hr =>
        obtain ⟨u, hu, hr'⟩ := load_sound (P := P) (K := K) (ι := ι) (n := n) (a := a) (val := val) h (fun j hj => hw _ _ (hK j (by simpa using hj)))
          (fun i hi => by rw [getD_map' AV.d cs i .nilp _ (by simpa using hi)]; exact .d _ _ (hr i (by simpa using hi)))
        refine ⟨u, wrap ?_, hr'⟩
        simpa [Instr.loadAt, Instr.sureAddr, hv] using hu
    · contradiction
  · rename_i t x lo hi mx
    obtain ⟨u, hu, hr⟩ := slA_sound (P := P) h (hρ x) (opt_rel hρ lo) (opt_rel hρ hi) (opt_rel hρ mx) w
    exact ⟨u, wrap hu, hr⟩
  · rename_i x i
    obtain ⟨u, hu, hr⟩ := exA_sound (P := P) h (hρ x) w
    exact ⟨u, wrap hu, hr⟩
  · rename_i fn first caps
    unfold mfA at h
    split at h
    · rename_i f hf
      have hfirst : first = #[] := by
        have : first.toList = [] := by simpa using hf
        exact Array.toList_eq_nil_iff.1 this
      subst hfirst
      split at h
      · rename_i hc
        simp only [Option.some.injEq] at h; subst h
        have hcaps : caps = #[] := by
          have : caps.toList = [] := by simpa using hc
          exact Array.toList_eq_nil_iff.1 this
        subst hcaps
        exact ⟨.func (.func f) #[] #[], by simp [execOp, Instr.makeFunc], .d _ _ (.func _)⟩
      · simp only [Option.some.injEq] at h; subst h
        refine ⟨.func (.func f) #[] (caps.map ρ), by simp [execOp, Instr.makeFunc], .clo _ _ _ (by simp) fun i hi => ?_⟩
        have hi' : i < caps.size := by simpa using hi
        have e1 : (caps.toList.map (ev G e)).getD i .junk = ev G e caps[i] := by simp [List.getD_eq_getElem?_getD, hi']
        have e2 : (caps.map ρ).getD i undef = ρ caps[i] := by simp [Array.getD, hi']
        rw [e1, e2]
        exact hρ _
    · contradiction
  · rename_i t parts
    obtain ⟨u, hu, hr⟩ := bldA_sound (P := P) (K := K) (ι := ι) (n := n) (vparts := parts.map fun p => (p.1, ρ p.2)) h (by simp) (by
      intro i x y hx hy
      simp only [List.getElem?_map, Option.map_eq_some_iff, Array.toList_map] at hx hy
      obtain ⟨p, hp, rfl⟩ := hx
      obtain ⟨q, hq, rfl⟩ := hy
      rw [hp] at hq
      simp only [Option.some.injEq] at hq; subst hq
      exact ⟨rfl, hρ _⟩) w
    exact ⟨u, wrap hu, hr⟩
  · rename_i t x
    unfold miA at h
    split at h
    · rename_i y he
      split at h
      · rename_i hc
        simp only [Option.some.injEq] at h; subst h
        have hx := hρ x
        rw [he] at hx
        exact ⟨_, wrap (run_makeInterface w t _ hc), .d _ _ (.ifc _ _ _ hx.get)⟩
      · contradiction
    · contradiction
  · rename_i x t
    unfold lnA at h
    split at h
    · rename_i k hk
      split at h
      · rename_i hkk
        obtain ⟨u, hu, hr⟩ := lenA_sound (P := P) hk hkk h (hρ x) T w
        refine ⟨u, ?_, hr⟩
        have hm : Array.map ρ ⟨[x]⟩ = #[ρ x] := by simp
        simp only [execOp, resolve, Sem.run_bind, Sem.run_pure, Result.andThen_ok, invoke, builtin, hm, hu]
      · contradiction
    · contradiction
  · rename_i x y ts
    have hx := hρ x
    have hy := hρ y
    unfold minA at h
    split at h
    · rename_i k a k' b h1 h2
      simp only [Option.some.injEq] at h; subst h
      rw [h1] at hx
      rw [h2] at hy
      generalize hv : ρ x = vx at hx
      generalize hv' : ρ y = vy at hy
      have g1 := hx.get
      have g2 := hy.get
      cases g1
      cases g2
      refine ⟨.int k (if b < a then b else a), ?_, .d _ _ (.int _ _)⟩
      simp [execOp, resolve, invoke, builtin, hv, hv', run_min_int2]
    · contradiction
  · rename_i x y ts
    have hx := hρ x
    have hy := hρ y
    unfold maxA at h
    split at h
    · rename_i k a k' b h1 h2
      simp only [Option.some.injEq] at h; subst h
      rw [h1] at hx
      rw [h2] at hy
      generalize hv : ρ x = vx at hx
      generalize hv' : ρ y = vy at hy
      have g1 := hx.get
      have g2 := hy.get
      cases g1
      cases g2
      refine ⟨.int k (if b > a then b else a), ?_, .d _ _ (.int _ _)⟩
      simp [execOp, resolve, invoke, builtin, hv, hv', run_max_int2]
    · contradiction
  · contradiction

end
end Go.Proofs.YtjmldlknegbimaaGreatDoor.Sx
