/- The operations that touch no memory of the call's own: what each gives at abstract values, and that the machine's operation gives just that. Own library, part 2. -/
import Derived.Test.YtjmldlknegbimaaDoorA1
import Derived.Laws.Sem
import Derived.Laws.World
import Derived.Laws.Cells
import Derived.Laws.Small
import Derived.Laws.Slices
import Derived.Laws.Strings
import Derived.Laws.StructEq
import Derived.Laws.Entries
import Derived.Laws.NewBlocks
import Derived.Laws.Rows
import Derived.Laws.Append
import Derived.ChangeKeysEq
set_option linter.unusedVariables false
set_option linter.unusedSimpArgs false
namespace Go.Proofs.YtjmldlknegbimaaDoor.Sx
open Go Go.RowKit

/-! Types -/
inductive TK where
  | bool | int (k : IntKind) | string | slice (e : TypeId) | array (n : Nat) (e : TypeId) | struct (fs : List (TypeId × Nat)) | ptr (e : TypeId) | func | iface | map (k e : TypeId) | other

def TK.of : TypeDesc → TK
  | .bool => .bool
  | .int k => .int k
  | .string => .string
  | .slice e => .slice e
  | .array n e => .array n e
  | .struct fs => .struct (fs.toList.map fun f => (f.type, f.offset))
  | .pointer e => .ptr e
  | .func .. => .func
  | .interface _ => .iface
  | .map k e => .map k e
  | _ => .other

def tk (P : Program) (t : TypeId) : Option TK := (P.underlying t).map TK.of
def tsz (P : Program) (t : TypeId) : Option Nat := (P.info? t).map (·.size)
def tby (P : Program) (t : TypeId) : Option Nat := (P.info? t).map (·.bytes)
def tz (P : Program) (t : TypeId) : Option Value := (P.info? t).bind (·.zero)
def TK.isAgg : TK → Bool
  | .struct _ => true
  | .array .. => true
  | _ => false

section
variable {P : Program}

theorem run_under_tk {t : TypeId} {k : TK} (h : tk P t = some k) : ∃ d, P.underlying t = some d ∧ TK.of d = k ∧ ∀ w, (underlying t).run P w = .ok d w := by
  unfold tk at h
  cases hd : P.underlying t with
  | none => rw [hd] at h; simp at h
  | some d => rw [hd] at h; simp at h; exact ⟨d, rfl, h, fun w => run_underlying hd w⟩

theorem tk_slice {t e : TypeId} (h : tk P t = some (.slice e)) : P.underlying t = some (.slice e) := by
  obtain ⟨d, hd, hk, _⟩ := run_under_tk h
  cases d <;> simp [TK.of] at hk
  rw [hd, hk]

theorem tk_string {t : TypeId} (h : tk P t = some .string) : P.underlying t = some .string := by
  obtain ⟨d, hd, hk, _⟩ := run_under_tk h
  cases d <;> simp [TK.of] at hk
  rw [hd]
theorem tk_bool {t : TypeId} (h : tk P t = some .bool) : P.underlying t = some .bool := by
  obtain ⟨d, hd, hk, _⟩ := run_under_tk h
  cases d <;> simp [TK.of] at hk
  rw [hd]
theorem tk_int {t : TypeId} {k : IntKind} (h : tk P t = some (.int k)) : P.underlying t = some (.int k) := by
  obtain ⟨d, hd, hk, _⟩ := run_under_tk h
  cases d <;> simp [TK.of] at hk
  rw [hd, hk]
theorem tk_array {t e : TypeId} {n : Nat} (h : tk P t = some (.array n e)) : P.underlying t = some (.array n e) := by
  obtain ⟨d, hd, hk, _⟩ := run_under_tk h
  cases d <;> simp [TK.of] at hk
  rw [hd, hk.1, hk.2]
theorem tk_ptr {t e : TypeId} (h : tk P t = some (.ptr e)) : P.underlying t = some (.pointer e) := by
  obtain ⟨d, hd, hk, _⟩ := run_under_tk h
  cases d <;> simp [TK.of] at hk
  rw [hd, hk]
theorem tk_struct {t : TypeId} {fs : List (TypeId × Nat)} (h : tk P t = some (.struct fs)) : ∃ Fs : Array Field, P.underlying t = some (.struct Fs) ∧ Fs.toList.map (fun f => (f.type, f.offset)) = fs := by
  obtain ⟨d, hd, hk, _⟩ := run_under_tk h
  cases d <;> simp [TK.of] at hk
  exact ⟨_, hd, hk⟩

theorem run_sizeOf' {t : TypeId} {n : Nat} (h : tsz P t = some n) (w : World) : (sizeOf t).run P w = .ok n w := by
  unfold tsz at h
  cases hi : P.info? t with
  | none => rw [hi] at h; simp at h
  | some i => rw [hi] at h; simp at h; subst h; simp [sizeOf, run_typeInfo w hi]

theorem run_bytesOf' {t : TypeId} {n : Nat} (h : tby P t = some n) (w : World) : ∃ i, (typeInfo t).run P w = .ok i w ∧ i.bytes = n := by
  unfold tby at h
  cases hi : P.info? t with
  | none => rw [hi] at h; simp at h
  | some i => rw [hi] at h; simp at h; exact ⟨i, run_typeInfo w hi, h⟩

theorem run_zero' {t : TypeId} {z : Value} (h : tz P t = some z) (w : World) : (zeroValue t).run P w = .ok z w := by
  unfold tz at h
  cases hi : P.info? t with
  | none => rw [hi] at h; simp at h
  | some i => rw [hi] at h; simp at h; simp [zeroValue, run_typeInfo w hi, h]

theorem run_isAgg {t : TypeId} {k : TK} (h : tk P t = some k) (w : World) : (isAgg t).run P w = .ok k.isAgg w := by
  obtain ⟨d, hd, hk, hr⟩ := run_under_tk h
  subst hk
  simp only [isAgg, Sem.run_bind, hr, Result.andThen_ok]
  cases d <;> rfl
end

theorem Addr.add_add (a : Addr) (n m : Nat) : (a.add n).add m = a.add (n + m) := by
  unfold Addr.add
  by_cases hn : n = 0
  · subst hn; simp
  · by_cases hm : m = 0
    · subst hm; simp [hn]
    · simp [hn, hm, Nat.add_assoc]

theorem Addr.add_mk (b o n : Nat) : Addr.add ⟨b, o, none⟩ n = ⟨b, o + n, none⟩ := by
  unfold Addr.add; split <;> simp_all

/-! Wraps -/
theorem wrap_i64 {n : Int} (h1 : -9223372036854775808 ≤ n) (h2 : n ≤ 9223372036854775807) : IntKind.i64.wrap n = n := by
  have e : IntKind.i64.wrap n = if n % 18446744073709551616 ≥ 9223372036854775808 then n % 18446744073709551616 - 18446744073709551616 else n % 18446744073709551616 := by
    simp [IntKind.wrap, IntKind.bits, IntKind.signed]
  rw [e]
  split <;> omega
theorem wrap_i32 {n : Int} (h1 : -2147483648 ≤ n) (h2 : n ≤ 2147483647) : IntKind.i32.wrap n = n := by
  have e : IntKind.i32.wrap n = if n % 4294967296 ≥ 2147483648 then n % 4294967296 - 4294967296 else n % 4294967296 := by
    simp [IntKind.wrap, IntKind.bits, IntKind.signed]
  rw [e]
  split <;> omega
theorem wrap_u8 (n : Int) : IntKind.u8.wrap n = n % 256 := by simp [IntKind.wrap, IntKind.bits, IntKind.signed]
theorem wrap_u16 (n : Int) : IntKind.u16.wrap n = n % 65536 := by simp [IntKind.wrap, IntKind.bits, IntKind.signed]
theorem wrap_u32 (n : Int) : IntKind.u32.wrap n = n % 4294967296 := by simp [IntKind.wrap, IntKind.bits, IntKind.signed]
theorem wrap_u64 (n : Int) : IntKind.u64.wrap n = n % 18446744073709551616 := by simp [IntKind.wrap, IntKind.bits, IntKind.signed]

/-! Agreement of the known cells with the world -/
def Agree (K : Mem) (w : World) : Prop := ∀ a v, K a = some v → w.cell? a = some v

theorem Agree.lt {K : Mem} {w : World} (h : Agree K w) {a : Addr} {v : Value} (e : K a = some v) : a.block < w.heap.size := World.block_lt_of_cell? _ _ (h a v e)

/-! Constants -/
mutual
def ofV : Value → AV
  | .bool b => .d (.bool b)
  | .int k n => .d (.int k n)
  | .string s => .d (.str s.data.toList)
  | .pointer none => .d .nilp
  | .slice none 0 0 => .d (.sl .nil [])
  | .nilFunc => .d .nilf
  | .nilIface => .d .nili
  | .func (.func f) ⟨[]⟩ ⟨[]⟩ => .d (.func f)
  | .tuple ⟨[]⟩ => .d (.tup [])
  | .agg ⟨cs⟩ => mkAgg (ofVL cs)
  | _ => .junk
def ofVL : List Value → List AV
  | [] => []
  | v :: r => ofV v :: ofVL r
 end

theorem ofVL_get : ∀ (l : List Value) (i : Nat), i < l.length → (ofVL l).getD i .junk = ofV (l.getD i undef) ∧ (ofVL l).length = l.length
  | [], i, h => by simp at h
  | v :: r, 0, _ => by
    refine ⟨rfl, ?_⟩
    cases r with
    | nil => rfl
    | cons u r => have := (ofVL_get (u :: r) 0 (by simp)).2; simp only [ofVL, List.length_cons] at this ⊢; omega
  | v :: r, i + 1, h => by
    have := ofVL_get r i (by simpa using h)
    exact ⟨by simpa [ofVL] using this.1, by simp [ofVL, this.2]⟩

theorem ofVL_length (l : List Value) : (ofVL l).length = l.length := by
  cases l with
  | nil => rfl
  | cons u r => exact (ofVL_get (u :: r) 0 (by simp)).2

mutual
theorem ofV_rel (K : Mem) (ι : Nat → Pl) (n : Nat) : ∀ v : Value, RelA K ι n (ofV v) v
  | .bool b => .d _ _ (.bool b)
  | .int k m => .d _ _ (.int k m)
  | .string s => by
    have h : (⟨s.data.toList.toArray⟩ : ByteArray) = s := by cases s; simp
    have := Rel.str (K := K) s.data.toList
    rw [h] at this
    exact .d _ _ this
  | .pointer none => .d _ _ .nilp
  | .pointer (some a) => .junk _
  | .nilFunc => .d _ _ .nilf
  | .nilIface => .d _ _ .nili
  | .slice (some a) l c => by unfold ofV; exact .junk _
  | .slice none l c => by
    unfold ofV
    split <;> (rename_i h; first | exact .junk _ | (cases h; done) | (cases h; exact .d _ _ (.slnil _)))
  | .func f a c => by
    unfold ofV
    split <;> (rename_i h; first | exact .junk _ | (cases h; done) | (cases h; exact .d _ _ (.func _)))
  | .tuple vs => by
    unfold ofV
    split <;> (rename_i h; first | exact .junk _ | (cases h; done) | (cases h; exact .d _ _ (.tup _ _ rfl (fun i hi => by simp at hi))))
  | .agg ⟨cs⟩ => by
    have : ofV (.agg ⟨cs⟩) = mkAgg (ofVL cs) := by rw [ofV]
    rw [this]
    refine relA_mkAgg (by simp [ofVL_length]) fun i hi => ?_
    rw [ofVL_length] at hi
    have hg : (Array.mk cs).getD i undef = cs.getD i undef := by simp [Array.getD, hi, List.getD_eq_getElem?_getD]
    rw [hg]
    exact ofVL_rel K ι n cs i hi
  | .float .. => by unfold ofV; exact .junk _
  | .complex .. => by unfold ofV; exact .junk _
  | .map .. => by unfold ofV; exact .junk _
  | .chan .. => by unfold ofV; exact .junk _
  | .iface .. => by unfold ofV; exact .junk _
theorem ofVL_rel (K : Mem) (ι : Nat → Pl) (n : Nat) : ∀ (l : List Value) (i : Nat), i < l.length → RelA K ι n ((ofVL l).getD i .junk) (l.getD i undef)
  | [], i, h => absurd h (by simp)
  | v :: r, 0, _ => ofV_rel K ι n v
  | v :: r, i + 1, h => by simpa [ofVL] using ofVL_rel K ι n r i (by simpa using h)
 end

end Go.Proofs.YtjmldlknegbimaaDoor.Sx
