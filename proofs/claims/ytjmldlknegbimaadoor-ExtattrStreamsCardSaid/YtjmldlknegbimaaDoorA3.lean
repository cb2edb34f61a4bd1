/- Pure operations at abstract values, and their soundness. Own library, part 3. -/
import Derived.Test.YtjmldlknegbimaaDoorA2
set_option linter.unusedVariables false
set_option linter.unusedSimpArgs false
namespace Go.Proofs.YtjmldlknegbimaaDoor.Sx
open Go Go.RowKit

abbrev Env := Nat → AV
def upd (e : Env) (t : Nat) (v : AV) : Env := fun u => if u = t then v else e u

/-! Numbers and strings -/
def intA (op : BinOp) (k : IntKind) (a b : Int) : Option DV :=
  match op with
  | .add => some (.int k (k.wrap (a + b)))
  | .sub => some (.int k (k.wrap (a - b)))
  | .mul => some (.int k (k.wrap (a * b)))
  | .quo => if b = 0 then none else some (.int k (k.wrap (a.tdiv b)))
  | .rem => if b = 0 then none else some (.int k (a.tmod b))
  | .and => some (.int k (bits .and k a b))
  | .or => some (.int k (bits .or k a b))
  | .xor => some (.int k (bits .xor k a b))
  | .andNot => some (.int k (bits .andNot k a b))
  | .eql => some (.bool (a == b))
  | .neq => some (.bool (a != b))
  | .lss => some (.bool (decide (a < b)))
  | .leq => some (.bool (decide (a ≤ b)))
  | .gtr => some (.bool (decide (a > b)))
  | .geq => some (.bool (decide (a ≥ b)))
  | _ => none

def shA (op : BinOp) (k : IntKind) (a b : Int) : Option DV :=
  if b < 0 then none else
  match op with
  | .shl => some (.int k (k.wrap (a * 2 ^ (min b.toNat k.bits))))
  | .shr => some (.int k (a.fdiv (2 ^ (min b.toNat k.bits))))
  | _ => none

def strA (op : BinOp) (x y : List UInt8) : Option DV :=
  match op with
  | .add => if x.length + y.length ≤ 9223372036854775807 then some (.str (x ++ y)) else none
  | .eql => some (.bool (x == y))
  | .neq => some (.bool (!(x == y)))
  | .lss => some (.bool (Op.bytesLess x y))
  | .leq => some (.bool (Op.bytesLess x y || x == y))
  | .gtr => some (.bool (!(Op.bytesLess x y || x == y)))
  | .geq => some (.bool (!Op.bytesLess x y))
  | _ => none

section
variable {P : Program}

theorem intA_sound {op : BinOp} {k : IntKind} {a b : Int} {r : DV} (h : intA op k a b = some r) (hs : op ≠ .shl) (hs' : op ≠ .shr) (K : Mem) (t : TypeId) (w : World) :
    ∃ v, (binOp op t (.int k a) (.int k b)).run P w = .ok v w ∧ Rel K r v := by
  cases op <;> simp only [intA] at h <;> (try contradiction)
  all_goals first
    | (simp only [Option.some.injEq] at h; subst h; simp [binOp, Op.intArith, Op.intCmp, Op.intBits, bits]; first | exact .int _ _ | exact .bool _)
    | (split at h
       · contradiction
       · rename_i hb
         simp only [Option.some.injEq] at h; subst h; simp [binOp, Op.intDiv, hb]; exact .int _ _)

theorem shA_sound {op : BinOp} {k yk : IntKind} {a b : Int} {r : DV} (h : shA op k a b = some r) (hop : op = .shl ∨ op = .shr) (K : Mem) (t : TypeId) (w : World) :
    ∃ v, (binOp op t (.int k a) (.int yk b)).run P w = .ok v w ∧ Rel K r v := by
  unfold shA at h
  split at h
  · contradiction
  · rename_i hb
    rcases hop with rfl | rfl <;> (simp only [Option.some.injEq] at h; subst h; simp [binOp, Op.shift, hb]; exact .int _ _)

theorem strA_sound {op : BinOp} {x y : List UInt8} {r : DV} (h : strA op x y = some r) (K : Mem) (t : TypeId) (w : World) :
    ∃ v, (binOp op t (.string ⟨x.toArray⟩) (.string ⟨y.toArray⟩)).run P w = .ok v w ∧ Rel K r v := by
  cases op <;> simp only [strA] at h <;> (try contradiction)
  case add =>
    split at h
    · rename_i hl
      simp only [Option.some.injEq] at h; subst h
      have hx : (⟨x.toArray⟩ : ByteArray).size = x.length := by simp [ByteArray.size]
      have hy : (⟨y.toArray⟩ : ByteArray).size = y.length := by simp [ByteArray.size]
      have hn : ¬ (((x.length + y.length : Nat) : Int) > IntKind.i64.max) := by simp; omega
      refine ⟨.string ⟨(x ++ y).toArray⟩, ?_, .str _⟩
      simp only [binOp, Op.stringOp, hx, hy, hn, if_false, Sem.run_pure]
      congr 2
    · contradiction
  all_goals (simp only [Option.some.injEq] at h; subst h; simp [binOp, Op.stringOp]; exact .bool _)

/-! Equality of flat structs -/
inductive LK where
  | bool | int (k : IntKind) | str
  deriving DecidableEq

def flatFs (P : Program) (g : TypeId → Option (List LK)) : List Field → Nat → Option (List LK)
  | [], _ => some []
  | f :: fs, off =>
    if f.name = "_" ∨ f.offset ≠ off then none else
    match g f.type with
    | none => none
    | some ks => if tsz P f.type = some ks.length then (flatFs P g fs (off + ks.length)).map (ks ++ ·) else none

def flatK (P : Program) : Nat → TypeId → Option (List LK)
  | 0, _ => none
  | d + 1, t =>
    match tk P t with
    | some .bool => some [.bool]
    | some (.int k) => some [.int k]
    | some .string => some [.str]
    | some (.struct _) => if P.stoodInHeld t then none else flatFs P (flatK P d) (P.fieldsOf t).toList 0
    | _ => none

def eqOk (P : Program) (t : TypeId) : Option (List LK) :=
  match tk P t with
  | some (.struct _) => if P.eqGuardType P.depth t then none else flatK P 50 t
  | _ => none

def eq1 : LK → Value → Value → Option Bool
  | .bool, .bool a, .bool b => some (a == b)
  | .int k, .int j a, .int l b => if j = k ∧ l = k then some (a == b) else none
  | .str, .string a, .string b => some (a.data.toList == b.data.toList)
  | _, _, _ => none

def eqVals : List LK → List Value → List Value → Option Bool
  | [], [], [] => some true
  | k :: ks, x :: xs, y :: ys =>
    match eq1 k x y, eqVals ks xs ys with
    | some c, some b => some (c && b)
    | _, _ => none
  | _, _, _ => none

def eq1D : LK → DV → DV → Option Bool
  | .bool, .bool a, .bool b => some (a == b)
  | .int k, .int j a, .int l b => if j = k ∧ l = k then some (a == b) else none
  | .str, .str a, .str b => some (a == b)
  | _, _, _ => none

def eqCells : List LK → List DV → List DV → Option Bool
  | [], [], [] => some true
  | k :: ks, x :: xs, y :: ys =>
    match eq1D k x y, eqCells ks xs ys with
    | some c, some b => some (c && b)
    | _, _ => none
  | _, _, _ => none

theorem eqVals_cons {k : LK} {ks : List LK} {xs ys : List Value} {b : Bool} (h : eqVals (k :: ks) xs ys = some b) :
    ∃ x xs' y ys' c b', xs = x :: xs' ∧ ys = y :: ys' ∧ eq1 k x y = some c ∧ eqVals ks xs' ys' = some b' ∧ b = (c && b') := by
  cases xs with
  | nil => simp [eqVals] at h
  | cons x xs =>
    cases ys with
    | nil => simp [eqVals] at h
    | cons y ys =>
      simp only [eqVals] at h
      split at h
      · rename_i c b' h1 h2
        simp only [Option.some.injEq] at h
        exact ⟨x, xs, y, ys, c, b', rfl, rfl, h1, h2, h.symm⟩
      · contradiction
theorem eqVals_nil {xs ys : List Value} {b : Bool} (h : eqVals [] xs ys = some b) : xs = [] ∧ ys = [] ∧ b = true := by
  cases xs <;> cases ys <;> simp [eqVals] at h
  exact ⟨rfl, rfl, h⟩
theorem eqCells_cons {k : LK} {ks : List LK} {xs ys : List DV} {b : Bool} (h : eqCells (k :: ks) xs ys = some b) :
    ∃ x xs' y ys' c b', xs = x :: xs' ∧ ys = y :: ys' ∧ eq1D k x y = some c ∧ eqCells ks xs' ys' = some b' ∧ b = (c && b') := by
  cases xs with
  | nil => simp [eqCells] at h
  | cons x xs =>
    cases ys with
    | nil => simp [eqCells] at h
    | cons y ys =>
      simp only [eqCells] at h
      split at h
      · rename_i c b' h1 h2
        simp only [Option.some.injEq] at h
        exact ⟨x, xs, y, ys, c, b', rfl, rfl, h1, h2, h.symm⟩
      · contradiction

theorem eqVals_app {ks : List LK} : ∀ {ks' : List LK} {xs ys : List Value} {b : Bool}, eqVals (ks ++ ks') xs ys = some b →
    ∃ b1 b2, eqVals ks (xs.take ks.length) (ys.take ks.length) = some b1 ∧ eqVals ks' (xs.drop ks.length) (ys.drop ks.length) = some b2 ∧ b = (b1 && b2) ∧ ks.length ≤ xs.length ∧ ks.length ≤ ys.length := by
  induction ks with
  | nil => intro ks' xs ys b h; exact ⟨true, b, by simp [eqVals], by simpa using h, by simp, by simp, by simp⟩
  | cons k ks ih =>
    intro ks' xs ys b h
    obtain ⟨x, xs', y, ys', c, b', rfl, rfl, h1, h2, rfl⟩ := eqVals_cons h
    obtain ⟨b1, b2, e1, e2, rfl, l1, l2⟩ := ih h2
    refine ⟨c && b1, b2, by simp [eqVals, e1, h1], by simpa using e2, by simp [Bool.and_assoc], by simp; omega, by simp; omega⟩

theorem eq1_run {k : LK} {x y : Value} {c : Bool} (h : eq1 k x y = some c) :
    (k = .bool ∧ ∃ a b, x = .bool a ∧ y = .bool b ∧ c = (a == b)) ∨ (∃ j a b, k = .int j ∧ x = .int j a ∧ y = .int j b ∧ c = (a == b)) ∨
    (k = .str ∧ ∃ a b, x = .string a ∧ y = .string b ∧ c = (a.data.toList == b.data.toList)) := by
  unfold eq1 at h
  split at h
  · simp only [Option.some.injEq] at h; exact .inl ⟨rfl, _, _, rfl, rfl, h.symm⟩
  · split at h
    · rename_i hk
      obtain ⟨rfl, rfl⟩ := hk
      simp only [Option.some.injEq] at h; exact .inr (.inl ⟨_, _, _, rfl, rfl, rfl, h.symm⟩)
    · contradiction
  · simp only [Option.some.injEq] at h; exact .inr (.inr ⟨rfl, _, _, rfl, rfl, h.symm⟩)
  · contradiction

/-- The value of a type that lies in some cells. -/
def valOf (P : Program) (t : TypeId) (cs : List Value) : Value :=
  match tk P t with
  | some k => if k.isAgg then .agg cs.toArray else cs.headD undef
  | none => undef

theorem run_part_flat {t : TypeId} {k : TK} {n : Nat} (hk : tk P t = some k) (hn : tsz P t = some n) (hn1 : k.isAgg = false → n = 1) {cs : List Value} {off : Nat} (hl : off + n ≤ cs.length) (w : World) :
    (part t cs.toArray off).run P w = .ok (valOf P t ((cs.drop off).take n)) w := by
  unfold part valOf
  simp only [Sem.run_bind, run_isAgg hk, Result.andThen_ok, hk]
  cases ha : k.isAgg with
  | true =>
    simp only [if_true, Sem.run_bind, run_sizeOf' hn, Result.andThen_ok, Sem.run_pure]
    congr 2
    apply Array.ext'
    simp [List.extract_eq_take_drop]
  | false =>
    have := hn1 ha; subst this
    have hlt : off < cs.length := by omega
    simp only [if_false, Bool.false_eq_true]
    rw [show cs.toArray[off]? = some cs[off] from by simp [hlt]]
    simp only [Sem.run_pure]
    rw [List.drop_eq_getElem_cons hlt]
    rfl

theorem flatK_len1 {d : Nat} {t : TypeId} {ks : List LK} {k : TK} (h : flatK P d t = some ks) (hk : tk P t = some k) (ha : k.isAgg = false) : ks.length = 1 := by
  cases d with
  | zero => simp [flatK] at h
  | succ d =>
    unfold flatK at h
    rw [hk] at h
    cases k <;> simp [TK.isAgg] at ha <;> simp at h <;> (subst h; rfl)

theorem flatK_tk {d : Nat} {t : TypeId} {ks : List LK} (h : flatK P d t = some ks) : ∃ k, tk P t = some k := by
  cases d with
  | zero => simp [flatK] at h
  | succ d =>
    unfold flatK at h
    cases hk : tk P t with
    | none => rw [hk] at h; simp at h
    | some k => exact ⟨k, rfl⟩

theorem flat_run : ∀ (d : Nat) {t : TypeId} {ks : List LK}, flatK P d t = some ks → ∀ (d' : Nat), d ≤ d' → ∀ (xs ys : List Value) (b : Bool), eqVals ks xs ys = some b → ∀ w,
    (Op.equalIn d' t (valOf P t xs) (valOf P t ys)).run P w = .ok b w := by
  intro d
  induction d with
  | zero => intro t ks h; simp [flatK] at h
  | succ d ih =>
    intro t ks h d' hd xs ys b he w
    obtain ⟨d', rfl⟩ : ∃ m, d' = m + 1 := ⟨d' - 1, by omega⟩
    unfold flatK at h
    cases hk : tk P t with
    | none => rw [hk] at h; simp at h
    | some k =>
      rw [hk] at h
      cases k with
      | bool =>
        simp at h; subst h
        obtain ⟨x, xs', y, ys', c, b', rfl, rfl, h1, h2, rfl⟩ := eqVals_cons he
        obtain ⟨rfl, rfl, rfl⟩ := eqVals_nil h2
        rcases eq1_run h1 with ⟨_, p, q, rfl, rfl, rfl⟩ | ⟨j, p, q, e, rfl, rfl, rfl⟩ | ⟨e, p, q, rfl, rfl, rfl⟩
        · simp [valOf, hk, TK.isAgg, run_equalIn_bool w d' t _ _ (tk_bool hk)]
        · cases e
        · cases e
      | int k =>
        simp at h; subst h
        obtain ⟨x, xs', y, ys', c, b', rfl, rfl, h1, h2, rfl⟩ := eqVals_cons he
        obtain ⟨rfl, rfl, rfl⟩ := eqVals_nil h2
        rcases eq1_run h1 with ⟨e, p, q, rfl, rfl, rfl⟩ | ⟨j, p, q, e, rfl, rfl, rfl⟩ | ⟨e, p, q, rfl, rfl, rfl⟩
        · cases e
        · simp [valOf, hk, TK.isAgg, run_equalIn_int w d' t _ _ _ _ (tk_int hk)]
        · cases e
      | string =>
        simp at h; subst h
        obtain ⟨x, xs', y, ys', c, b', rfl, rfl, h1, h2, rfl⟩ := eqVals_cons he
        obtain ⟨rfl, rfl, rfl⟩ := eqVals_nil h2
        rcases eq1_run h1 with ⟨e, p, q, rfl, rfl, rfl⟩ | ⟨j, p, q, e, rfl, rfl, rfl⟩ | ⟨e, p, q, rfl, rfl, rfl⟩
        · cases e
        · cases e
        · simp [valOf, hk, TK.isAgg, run_equalIn_string w d' t _ _ (tk_string hk), ByteArray.toList_eq]
      | struct fs =>
        simp only at h
        split at h
        · contradiction
        · rename_i hst
          obtain ⟨Fs, hu, _⟩ := tk_struct hk
          have hfo : P.fieldsOf t = Fs := by simp [Program.fieldsOf, hu]
          have hval : ∀ cs, valOf P t cs = .agg cs.toArray := fun cs => by simp [valOf, hk, TK.isAgg]
          rw [hval, hval, run_equalIn_struct w d' t xs.toArray ys.toArray (by rw [hfo]; exact hu) (by simpa using hst)]
          -- field by field
          have key : ∀ (fl : List Field) (off : Nat) (ks : List LK) (b : Bool), flatFs P (flatK P d) fl off = some ks → eqVals ks (xs.drop off) (ys.drop off) = some b →
              (Op.eqFields d' xs.toArray ys.toArray fl).run P w = .ok b w := by
            intro fl
            induction fl with
            | nil =>
              intro off ks b h1 h2
              simp [flatFs] at h1; subst h1
              obtain ⟨_, _, rfl⟩ := eqVals_nil h2
              simp [Op.eqFields]
            | cons f fl ihf =>
              intro off ks b h1 h2
              simp only [flatFs] at h1
              split at h1
              · contradiction
              · rename_i hnm
                simp only [not_or, Classical.not_not] at hnm
                obtain ⟨hnm, rfl⟩ := hnm
                split at h1
                · contradiction
                · rename_i ks1 hk1
                  split at h1
                  · rename_i hsz
                    cases hr : flatFs P (flatK P d) fl (f.offset + ks1.length) with
                    | none => rw [hr] at h1; simp at h1
                    | some ks2 =>
                      rw [hr] at h1; simp at h1; subst h1
                      obtain ⟨b1, b2, e1, e2, rfl, l1, l2⟩ := eqVals_app h2
                      rw [List.drop_drop] at e2
                      rw [List.drop_drop] at e2
                      obtain ⟨k1, hkk⟩ := flatK_tk hk1
                      have hl1 : f.offset + ks1.length ≤ xs.length ∨ ks1.length = 0 := by
                        by_cases hz : ks1.length = 0
                        · exact .inr hz
                        · left; simp at l1; omega
                      have hl2 : f.offset + ks1.length ≤ ys.length ∨ ks1.length = 0 := by
                        by_cases hz : ks1.length = 0
                        · exact .inr hz
                        · left; simp at l2; omega
                      have hpx : (part f.type xs.toArray f.offset).run P w = .ok (valOf P f.type ((xs.drop f.offset).take ks1.length)) w := by
                        rcases hl1 with hl | hz
                        · exact run_part_flat hkk hsz (fun ha => flatK_len1 hk1 hkk ha) hl w
                        · have ha : k1.isAgg = true := by
                            cases hc : k1.isAgg with
                            | true => rfl
                            | false => have := flatK_len1 hk1 hkk hc; omega
                          unfold part valOf
                          simp only [Sem.run_bind, run_isAgg hkk, Result.andThen_ok, hkk, ha, if_true, run_sizeOf' hsz, Sem.run_pure]
                          congr 2
                          apply Array.ext'
                          simp [List.extract_eq_take_drop]
                      have hpy : (part f.type ys.toArray f.offset).run P w = .ok (valOf P f.type ((ys.drop f.offset).take ks1.length)) w := by
                        rcases hl2 with hl | hz
                        · exact run_part_flat hkk hsz (fun ha => flatK_len1 hk1 hkk ha) hl w
                        · have ha : k1.isAgg = true := by
                            cases hc : k1.isAgg with
                            | true => rfl
                            | false => have := flatK_len1 hk1 hkk hc; omega
                          unfold part valOf
                          simp only [Sem.run_bind, run_isAgg hkk, Result.andThen_ok, hkk, ha, if_true, run_sizeOf' hsz, Sem.run_pure]
                          congr 2
                          apply Array.ext'
                          simp [List.extract_eq_take_drop]
                      simp only [Op.eqFields]
                      rw [if_pos (by simpa using hnm)]
                      simp only [Sem.run_bind, hpx, hpy, Result.andThen_ok, ih hk1 d' (by omega) _ _ _ e1, Sem.run_ite, Sem.run_pure]
                      cases b1 with
                      | false => simp
                      | true => simpa using ihf _ _ _ hr e2
                  · contradiction
          rw [hfo] at h ⊢
          exact key _ 0 ks b h (by simpa using he)
      | slice e => simp at h
      | array n e => simp at h
      | ptr e => simp at h
      | func => simp at h
      | iface => simp at h
      | map k e => simp at h
      | other => simp at h

theorem eqCells_vals {K : Mem} {ks : List LK} : ∀ {xs ys : List DV} {us vs : List Value} {b : Bool}, eqCells ks xs ys = some b → us.length = xs.length → vs.length = ys.length →
    (∀ i, i < xs.length → Rel K (xs.getD i .nilp) (us.getD i undef)) → (∀ i, i < ys.length → Rel K (ys.getD i .nilp) (vs.getD i undef)) → eqVals ks us vs = some b := by
  induction ks with
  | nil =>
    intro xs ys us vs b h hu hv _ _
    cases xs <;> cases ys <;> simp [eqCells] at h
    cases us <;> simp at hu
    cases vs <;> simp at hv
    simp [eqVals, h]
  | cons k ks ih =>
    intro xs ys us vs b h hu hv hx hy
    obtain ⟨x, xs', y, ys', c, b', rfl, rfl, h1, h2, rfl⟩ := eqCells_cons h
    cases us <;> simp at hu
    cases vs <;> simp at hv
    rename_i u us v vs
    have r1 := hx 0 (by simp)
    have r2 := hy 0 (by simp)
    simp at r1 r2
    have e := ih h2 hu hv (fun i hi => by simpa using hx (i + 1) (by simpa using hi)) (fun i hi => by simpa using hy (i + 1) (by simpa using hi))
    have e1 : eq1 k u v = some c := by
      unfold eq1D at h1
      split at h1
      · cases r1; cases r2; exact h1
      · split at h1
        · rename_i hk
          obtain ⟨rfl, rfl⟩ := hk
          cases r1; cases r2; simpa [eq1] using h1
        · contradiction
      · cases r1; cases r2; simpa [eq1] using h1
      · contradiction
    simp [eqVals, e1, e]

end
end Go.Proofs.YtjmldlknegbimaaDoor.Sx
