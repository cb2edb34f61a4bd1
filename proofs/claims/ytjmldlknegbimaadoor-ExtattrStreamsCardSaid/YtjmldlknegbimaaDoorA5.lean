/- Pure operations: equality, building, and one step of all of them. Own library, part 5. -/
import Derived.Test.YtjmldlknegbimaaDoorA4
import Derived.Laws.Tables
import Derived.Laws.Build
set_option linter.unusedVariables false
set_option linter.unusedSimpArgs false
namespace Go.Proofs.YtjmldlknegbimaaDoor.Sx
open Go Go.RowKit

section
variable {P : Program} {K : Mem} {ι : Nat → Pl} {n : Nat}

/-! Equality -/
def isNilP : AV → Option Bool
  | .d .nilp => some true
  | .ptr .. => some false
  | .d (.eptr ..) => some false
  | _ => none
def isNilF : AV → Option Bool
  | .d .nilf => some true
  | .d (.func _) => some false
  | .clo .. => some false
  | _ => none
def isNilI : AV → Option Bool
  | .d .nili => some true
  | .d (.ifc ..) => some false
  | _ => none

def nilEq (a b : Option Bool) (c : Bool) : Option Bool :=
  match a, b with
  | some true, some true => if c then some true else none
  | some true, some false => some false
  | some false, some true => some false
  | _, _ => none

def eqA (P : Program) (t : TypeId) (x y : AV) (c : Bool) : Option Bool :=
  match tk P t with
  | some .bool => match x, y with | .d (.bool a), .d (.bool b) => some (a == b) | _, _ => none
  | some (.ptr _) => nilEq (isNilP x) (isNilP y) true
  | some .func => nilEq (isNilF x) (isNilF y) true
  | some .iface => nilEq (isNilI x) (isNilI y) c
  | some (.struct _) => match x, y with | .d (.agg xs), .d (.agg ys) => (match eqOk P t with | some ks => eqCells ks xs ys | none => none) | _, _ => none
  | _ => none

def isC : Operand → Bool
  | .const _ => true
  | _ => false

theorem isNilP_some {x : AV} {v : Value} {b : Bool} (h : isNilP x = some b) (hx : RelA K ι n x v) : (b = true ∧ v = .pointer none) ∨ (b = false ∧ ∃ a, v = .pointer (some a)) := by
  unfold isNilP at h
  split at h
  · simp only [Option.some.injEq] at h; subst h
    have hg := hx.get
    cases hg
    exact .inl ⟨rfl, rfl⟩
  · simp only [Option.some.injEq] at h; subst h
    cases hx
    exact .inr ⟨rfl, _, rfl⟩
  · simp only [Option.some.injEq] at h; subst h
    have hg := hx.get
    cases hg
    exact .inr ⟨rfl, _, rfl⟩
  · contradiction

theorem isNilF_some {x : AV} {v : Value} {b : Bool} (h : isNilF x = some b) (hx : RelA K ι n x v) : (b = true ∧ v = .nilFunc) ∨ (b = false ∧ ∃ f a c, v = .func f a c) := by
  unfold isNilF at h
  split at h
  · simp only [Option.some.injEq] at h; subst h
    have hg := hx.get
    cases hg
    exact .inl ⟨rfl, rfl⟩
  · simp only [Option.some.injEq] at h; subst h
    have hg := hx.get
    cases hg
    exact .inr ⟨rfl, _, _, _, rfl⟩
  · simp only [Option.some.injEq] at h; subst h
    cases hx
    exact .inr ⟨rfl, _, _, _, rfl⟩
  · contradiction

theorem isNilI_some {x : AV} {v : Value} {b : Bool} (h : isNilI x = some b) (hx : RelA K ι n x v) : (b = true ∧ v = .nilIface) ∨ (b = false ∧ ∃ t u, v = .iface t u) := by
  unfold isNilI at h
  split at h
  · simp only [Option.some.injEq] at h; subst h
    have hg := hx.get
    cases hg
    exact .inl ⟨rfl, rfl⟩
  · simp only [Option.some.injEq] at h; subst h
    have hg := hx.get
    cases hg
    exact .inr ⟨rfl, _, _, rfl⟩
  · contradiction

theorem nilEq_some {a b : Option Bool} {c r : Bool} (h : nilEq a b c = some r) : ∃ p q, a = some p ∧ b = some q ∧ (p = true ∨ q = true) ∧ r = (p && q) ∧ (p = true → q = true → c = true) := by
  unfold nilEq at h
  split at h
  · split at h
    · rename_i hc
      simp only [Option.some.injEq] at h; subst h
      exact ⟨true, true, rfl, rfl, .inl rfl, rfl, fun _ _ => hc⟩
    · contradiction
  · simp only [Option.some.injEq] at h; subst h
    exact ⟨true, false, rfl, rfl, .inl rfl, rfl, by simp⟩
  · simp only [Option.some.injEq] at h; subst h
    exact ⟨false, true, rfl, rfl, .inr rfl, rfl, by simp⟩
  · contradiction

theorem tk_iface {t : TypeId} (h : tk P t = some .iface) : ∃ ms, P.underlying t = some (.interface ms) := by
  obtain ⟨d, hd, hk, _⟩ := run_under_tk h
  cases d <;> simp [TK.of] at hk
  exact ⟨_, hd⟩
theorem tk_func {t : TypeId} (h : tk P t = some .func) : ∃ a b c, P.underlying t = some (.func a b c) := by
  obtain ⟨d, hd, hk, _⟩ := run_under_tk h
  cases d <;> simp [TK.of] at hk
  exact ⟨_, _, _, hd⟩

section
variable (w : World) (d : Nat) {t : TypeId}
theorem run_eqIn_p1 {e : TypeId} (ht : P.underlying t = some (.pointer e)) (b : Option Addr) : (Op.equalIn (d + 1) t (.pointer none) (.pointer b)).run P w = .ok b.isNone w := by
  simp only [Op.equalIn, Sem.run_bind, run_underlying ht, Result.andThen_ok]; rfl
theorem run_eqIn_p2 {e : TypeId} (ht : P.underlying t = some (.pointer e)) (a : Addr) : (Op.equalIn (d + 1) t (.pointer (some a)) (.pointer none)).run P w = .ok false w := by
  simp only [Op.equalIn, Sem.run_bind, run_underlying ht, Result.andThen_ok]; rfl
theorem run_eqIn_f1 {x y : Array TypeId} {z : Bool} (ht : P.underlying t = some (.func x y z)) : (Op.equalIn (d + 1) t .nilFunc .nilFunc).run P w = .ok true w := by
  simp only [Op.equalIn, Sem.run_bind, run_underlying ht, Result.andThen_ok]; rfl
theorem run_eqIn_f2 {x y : Array TypeId} {z : Bool} (ht : P.underlying t = some (.func x y z)) (f : Fn) (a c : Array Value) : (Op.equalIn (d + 1) t .nilFunc (.func f a c)).run P w = .ok false w := by
  simp only [Op.equalIn, Sem.run_bind, run_underlying ht, Result.andThen_ok]; rfl
theorem run_eqIn_f3 {x y : Array TypeId} {z : Bool} (ht : P.underlying t = some (.func x y z)) (f : Fn) (a c : Array Value) : (Op.equalIn (d + 1) t (.func f a c) .nilFunc).run P w = .ok false w := by
  simp only [Op.equalIn, Sem.run_bind, run_underlying ht, Result.andThen_ok]; rfl
theorem run_eqIn_i1 {x : Array (String × TypeId)} (ht : P.underlying t = some (.interface x)) : (Op.equalIn (d + 1) t .nilIface .nilIface).run P w = .ok true w := by
  simp only [Op.equalIn, Sem.run_bind, run_underlying ht, Result.andThen_ok]; rfl
theorem run_eqIn_i2 {x : Array (String × TypeId)} (ht : P.underlying t = some (.interface x)) (u : TypeId) (v : Value) : (Op.equalIn (d + 1) t .nilIface (.iface u v)).run P w = .ok false w := by
  simp only [Op.equalIn, Sem.run_bind, run_underlying ht, Result.andThen_ok]; rfl
theorem run_eqIn_i3 {x : Array (String × TypeId)} (ht : P.underlying t = some (.interface x)) (u : TypeId) (v : Value) : (Op.equalIn (d + 1) t (.iface u v) .nilIface).run P w = .ok false w := by
  simp only [Op.equalIn, Sem.run_bind, run_underlying ht, Result.andThen_ok]; rfl
end

theorem eqA_sound {t : TypeId} {x y : AV} {c r : Bool} {vx vy : Value} {ox oy : Operand} (h : eqA P t x y c = some r) (hx : RelA K ι n x vx) (hy : RelA K ι n y vy)
    (hc : c = true → isC ox = true ∨ isC oy = true) (op : BinOp) (hop : op = .eql ∨ op = .neq) (w : World) :
    (do eqGuard op t ox oy vx vy; binOp op t vx vy).run P w = .ok (.bool (if op = .eql then r else !r)) w := by
  have fin : ∀ b : Bool, (Op.equal t vx vy).run P w = .ok b w → (eqGuard op t ox oy vx vy).run P w = .ok () w → (∀ o, binOp .eql t vx vy = (do pure (.bool (← Op.equal t vx vy))) ∧ binOp .neq t vx vy = (do pure (.bool (!(← Op.equal t vx vy)))) ∨ o = 1) →
      (do eqGuard op t ox oy vx vy; binOp op t vx vy).run P w = .ok (.bool (if op = .eql then b else !b)) w := by
    intro b he hg hb
    have hb' := (hb 0).resolve_right (by omega)
    rcases hop with rfl | rfl
    · simp [hg, hb'.1, he]
    · simp [hg, hb'.2, he]
  unfold eqA at h
  split at h
  · rename_i hk
    split at h
    · rename_i a b
      simp only [Option.some.injEq] at h; subst h
      have g1 := hx.get
      have g2 := hy.get
      cases g1
      cases g2
      exact fin _ (run_equalIn_bool w 9999 t _ _ (tk_bool hk)) (by rw [eqGuard_at_bool]; rfl) (fun _ => .inl ⟨rfl, rfl⟩)
    · contradiction
  · rename_i e hk
    obtain ⟨p, q, h1, h2, hpq, rfl, _⟩ := nilEq_some h
    have ht := tk_ptr hk
    rcases isNilP_some h1 hx with ⟨rfl, rfl⟩ | ⟨rfl, a, rfl⟩ <;> rcases isNilP_some h2 hy with ⟨rfl, rfl⟩ | ⟨rfl, b, rfl⟩
    · exact fin _ (run_eqIn_p1 w 9999 ht _) (by rw [eqGuard_at_pointer]; rfl) (fun _ => .inl ⟨rfl, rfl⟩)
    · exact fin _ (run_eqIn_p1 w 9999 ht _) (by rw [eqGuard_at_pointer]; rfl) (fun _ => .inl ⟨rfl, rfl⟩)
    · exact fin _ (run_eqIn_p2 w 9999 ht _) (by rw [eqGuard_at_pointer]; rfl) (fun _ => .inl ⟨rfl, rfl⟩)
    · simp at hpq
  · rename_i hk
    obtain ⟨p, q, h1, h2, hpq, rfl, _⟩ := nilEq_some h
    obtain ⟨ta, tb, tc, ht⟩ := tk_func hk
    rcases isNilF_some h1 hx with ⟨rfl, rfl⟩ | ⟨rfl, f, a, c', rfl⟩ <;> rcases isNilF_some h2 hy with ⟨rfl, rfl⟩ | ⟨rfl, g, b, d', rfl⟩
    · exact fin _ (run_eqIn_f1 w 9999 ht) (by rw [eqGuard_at_nilFunc]; rfl) (fun _ => .inl ⟨rfl, rfl⟩)
    · exact fin _ (run_eqIn_f2 w 9999 ht _ _ _) (by rw [eqGuard_at_nilFunc]; rfl) (fun _ => .inl ⟨rfl, rfl⟩)
    · exact fin _ (run_eqIn_f3 w 9999 ht _ _ _) (by rw [eqGuard_at_func]; rfl) (fun _ => .inl ⟨rfl, rfl⟩)
    · simp at hpq
  · rename_i hk
    obtain ⟨p, q, h1, h2, hpq, rfl, hcc⟩ := nilEq_some h
    obtain ⟨ms, ht⟩ := tk_iface hk
    rcases isNilI_some h1 hx with ⟨rfl, rfl⟩ | ⟨rfl, a, u, rfl⟩ <;> rcases isNilI_some h2 hy with ⟨rfl, rfl⟩ | ⟨rfl, b, v, rfl⟩
    · have hC := hc (hcc rfl rfl)
      refine fin _ (run_eqIn_i1 w 9999 ht) ?_ (fun _ => .inl ⟨rfl, rfl⟩)
      cases ox with
      | const z => rw [eqGuard_nil_constL]; rfl
      | tmp z =>
        cases oy with
        | const z' => rw [eqGuard_nil_constR]; rfl
        | _ => simp [isC] at hC
      | global z =>
        cases oy with
        | const z' => rw [eqGuard_nil_constR]; rfl
        | _ => simp [isC] at hC
      | func z =>
        cases oy with
        | const z' => rw [eqGuard_nil_constR]; rfl
        | _ => simp [isC] at hC
    · exact fin _ (run_eqIn_i2 w 9999 ht _ _) (by rw [eqGuard_nil_iface]; rfl) (fun _ => .inl ⟨rfl, rfl⟩)
    · exact fin _ (run_eqIn_i3 w 9999 ht _ _) (by rw [eqGuard_at_iface]; rfl) (fun _ => .inl ⟨rfl, rfl⟩)
    · simp at hpq
  · rename_i fs hk
    split at h
    · rename_i xs ys
      split at h
      · rename_i ks hks
        have g1 := hx.get
        have g2 := hy.get
        cases g1 with
        | agg _ us hl1 hr1 =>
          cases g2 with
          | agg _ vs hl2 hr2 =>
            unfold eqOk at hks
            rw [hk] at hks
            simp only at hks
            split at hks
            · contradiction
            · rename_i hgt
              have hev := eqCells_vals (us := us.toList) (vs := vs.toList) h (by simpa using hl1) (by simpa using hl2)
                (fun i hi => by rw [getD_toList]; exact hr1 i hi) (fun i hi => by rw [getD_toList]; exact hr2 i hi)
              have hrun := flat_run (P := P) 50 hks 10000 (by omega) _ _ _ hev w
              have hv : ∀ cs : Array Value, valOf P t cs.toList = .agg cs := fun cs => by simp [valOf, hk, TK.isAgg]
              rw [hv, hv] at hrun
              refine fin _ hrun ?_ (fun _ => .inl ⟨rfl, rfl⟩)
              simp only [Bool.not_eq_true] at hgt
              rcases hop with rfl | rfl <;> simp [eqGuard, hgt]
      · contradiction
    · contradiction
  · contradiction

def dOpt (o : Option DV) : Option AV :=
  match o with
  | some x => some (.d x)
  | none => none

def isSh : BinOp → Bool
  | .shl => true
  | .shr => true
  | _ => false

def binA (P : Program) (op : BinOp) (t : TypeId) (x y : AV) (c : Bool) : Option AV :=
  match x, y with
  | .d (.int k a), .d (.int k' b) => if isSh op then dOpt (shA op k a b) else if k = k' then dOpt (intA op k a b) else none
  | .d (.str a), .d (.str b) => dOpt (strA op a b)
  | x, y =>
    match op with
    | .eql => match eqA P t x y c with | some b => some (.d (.bool b)) | none => none
    | .neq => match eqA P t x y c with | some b => some (.d (.bool (!b))) | none => none
    | _ => none

theorem binA_sound {op : BinOp} {t : TypeId} {x y r : AV} {c : Bool} {vx vy : Value} {ox oy : Operand} (h : binA P op t x y c = some r) (hx : RelA K ι n x vx) (hy : RelA K ι n y vy)
    (hc : c = true → isC ox = true ∨ isC oy = true) (w : World) : ∃ u, (do eqGuard op t ox oy vx vy; binOp op t vx vy).run P w = .ok u w ∧ RelA K ι n r u := by
  unfold binA at h
  split at h
  · rename_i k a k' b
    have g1 := hx.get
    have g2 := hy.get
    cases g1
    cases g2
    split at h
    · rename_i hs
      unfold dOpt at h
      split at h
      · rename_i z hz
        simp only [Option.some.injEq] at h; subst h
        obtain ⟨v, hv, hr⟩ := shA_sound (P := P) (yk := k') hz (by cases op <;> simp [isSh] at hs <;> simp) K t w
        exact ⟨v, by rw [eqGuard_at_int]; simpa using hv, .d _ _ hr⟩
      · contradiction
    · rename_i hs
      split at h
      · rename_i hkk
        subst hkk
        unfold dOpt at h
        split at h
        · rename_i z hz
          simp only [Option.some.injEq] at h; subst h
          obtain ⟨v, hv, hr⟩ := intA_sound (P := P) hz (by rintro rfl; simp [isSh] at hs) (by rintro rfl; simp [isSh] at hs) K t w
          exact ⟨v, by rw [eqGuard_at_int]; simpa using hv, .d _ _ hr⟩
        · contradiction
      · contradiction
  · rename_i a b
    have g1 := hx.get
    have g2 := hy.get
    cases g1
    cases g2
    unfold dOpt at h
    split at h
    · rename_i z hz
      simp only [Option.some.injEq] at h; subst h
      obtain ⟨v, hv, hr⟩ := strA_sound (P := P) hz K t w
      exact ⟨v, by rw [eqGuard_at_string]; simpa using hv, .d _ _ hr⟩
    · contradiction
  · split at h
    · split at h
      · rename_i b hb
        simp only [Option.some.injEq] at h; subst h
        have := eqA_sound (P := P) (ox := ox) (oy := oy) hb hx hy hc .eql (.inl rfl) w
        exact ⟨_, this, .d _ _ (.bool _)⟩
      · contradiction
    · split at h
      · rename_i b hb
        simp only [Option.some.injEq] at h; subst h
        have := eqA_sound (P := P) (ox := ox) (oy := oy) hb hx hy hc .neq (.inr rfl) w
        exact ⟨_, this, .d _ _ (.bool _)⟩
      · contradiction
    · contradiction

/-! Building -/
def placeL (P : Program) (t : TypeId) : Option (List (Nat × Nat)) :=
  match P.underlying t with
  | some (.struct Fs) => Fs.toList.mapM (fun f => (P.info? f.type).map fun i => (f.offset, i.size))
  | _ => none

def fillA (place : Nat → Option (Nat × Nat)) (cells : List AV) : List (Nat × AV) → Option (List AV)
  | [] => some cells
  | (i, v) :: rest =>
    match place i, cellsA v with
    | some (off, size), some vc =>
      if vc.length = size ∧ off + size ≤ cells.length then fillA place (cells.take off ++ vc ++ cells.drop (off + size)) rest else none
    | _, _ => none

theorem splice_fold : ∀ (vs : List Value) (cells : Array Value) (off j : Nat), off + j + vs.length ≤ cells.size →
    (vs.zipIdx j).foldl (fun cs (p : Value × Nat) => cs.setIfInBounds (off + p.2) p.1) cells = (cells.toList.take (off + j) ++ vs ++ cells.toList.drop (off + j + vs.length)).toArray
  | [], cells, off, j, h => by simp
  | v :: vs, cells, off, j, h => by
    simp only [List.length_cons] at h
    simp only [List.zipIdx_cons, List.foldl_cons]
    rw [splice_fold vs _ off (j + 1) (by simp; omega)]
    apply Array.ext'
    simp only [Array.toList_setIfInBounds]
    apply List.ext_getElem?
    intro q
    have hlen : (cells.toList.take (off + j)).length = off + j := by simp; omega
    simp only [List.getElem?_append, List.getElem?_take, List.getElem?_drop, List.getElem?_set, List.length_take, List.length_set, List.length_append, List.length_cons, Array.length_toList]
    have e1 : min (off + (j + 1)) cells.size = off + j + 1 := by omega
    have e2 : min (off + j) cells.size = off + j := by omega
    rw [e1, e2]
    by_cases c1 : q < off + j
    · rw [if_pos (by omega), if_pos (by omega), if_pos (by omega), if_neg (by omega), if_pos (by omega), if_pos (by omega), if_pos (by omega)]
    · by_cases c2 : q = off + j
      · subst c2
        rw [if_pos (by omega), if_pos (by omega), if_pos (by omega), if_pos rfl, if_pos (by omega), if_pos (by omega), if_neg (by omega)]
        simp
      · by_cases c3 : q < off + j + 1 + vs.length
        · rw [if_pos (by omega), if_neg (by omega), if_pos (by omega), if_neg (by omega)]
          rw [show q - (off + j) = (q - (off + j + 1)) + 1 from by omega]
          simp
        · rw [if_neg (by omega), if_neg (by omega)]
          rw [if_neg (by omega)]
          congr 1
          omega

theorem fill_sound (place : Nat → Option (Nat × Nat)) : ∀ (parts : List (Nat × AV)) (vparts : List (Nat × Value)) (cells cs : List AV) (vcells : Array Value), fillA place cells parts = some cs →
    vparts.length = parts.length → (∀ (i : Nat) (x : Nat × AV) (y : Nat × Value), parts[i]? = some x → vparts[i]? = some y → x.1 = y.1 ∧ RelA K ι n x.2 y.2) →
    vcells.size = cells.length → (∀ i, i < cells.length → RelA K ι n (cells.getD i .junk) (vcells.getD i undef)) →
    ∃ vcs, Instr.fill place vcells vparts = some vcs ∧ vcs.size = cs.length ∧ ∀ i, i < cs.length → RelA K ι n (cs.getD i .junk) (vcs.getD i undef)
  | [], vparts, cells, cs, vcells, h, hl, hp, hs, hr => by
    simp only [fillA, Option.some.injEq] at h; subst h
    obtain rfl : vparts = [] := List.length_eq_zero_iff.1 hl
    exact ⟨vcells, rfl, hs, hr⟩
  | (i, x) :: parts, vparts, cells, cs, vcells, h, hl, hp, hs, hr => by
    cases vparts with
    | nil => simp at hl
    | cons y vparts =>
      obtain ⟨j, y⟩ := y
      obtain ⟨e, hxy⟩ := hp 0 (i, x) (j, y) rfl rfl
      simp only at e; subst e
      simp only [fillA] at h
      split at h
      · rename_i off size vc hpl hc
        split at h
        · rename_i hcond
          obtain ⟨rfl, hle⟩ := hcond
          obtain ⟨q1, q2⟩ := cellsA_rel hxy hc
          simp only at q1 q2
          have hfold := splice_fold y.cells.toList vcells off 0 (by simp; omega)
          have hlen : (cells.take off ++ vc ++ cells.drop (off + vc.length)).length = cells.length := by simp; omega
          have hvlen : ((vcells.toList.take (off + 0) ++ y.cells.toList ++ vcells.toList.drop (off + 0 + y.cells.toList.length)).toArray).size = cells.length := by simp; omega
          obtain ⟨vcs, f1, f2, f3⟩ := fill_sound place parts vparts _ cs _ h (by simpa using hl) (fun q a b ha hb => hp (q + 1) a b (by simpa using ha) (by simpa using hb)) (by rw [hvlen, hlen]) (by
            intro q hq
            rw [hlen] at hq
            simp only [Array.getD_eq_getD_getElem?, List.getElem?_toArray, List.getD_eq_getElem?_getD, List.getElem?_append, List.length_append, List.length_take, List.getElem?_take, List.getElem?_drop, Nat.add_zero, Array.length_toList]
            rw [show min off cells.length = off from by omega, show min off vcells.size = off from by omega, q1]
            by_cases c1 : q < off
            · rw [if_pos (by omega), if_pos c1, if_pos c1, if_pos (by omega), if_pos c1, if_pos c1]
              have := hr q (by omega)
              simpa [Array.getD_eq_getD_getElem?, List.getD_eq_getElem?_getD] using this
            · by_cases c2 : q < off + vc.length
              · rw [if_pos c2, if_neg c1, if_pos c2, if_neg c1]
                have := q2 (q - off) (by omega)
                simpa [Array.getD_eq_getD_getElem?, List.getD_eq_getElem?_getD] using this
              · rw [if_neg c2, if_neg c2]
                have := hr q (by omega)
                rw [show off + vc.length + (q - (off + vc.length)) = q from by omega]
                simpa [Array.getD_eq_getD_getElem?, List.getD_eq_getElem?_getD] using this)
          refine ⟨vcs, ?_, f2, f3⟩
          have hz : y.cells.zipIdx.toList = y.cells.toList.zipIdx := by simp
          simp only [Instr.fill, hpl]
          rw [if_neg (by simp; omega)]
          rw [← Array.foldl_toList, hz]
          have : (y.cells.toList.zipIdx).foldl (fun cs (x : Value × Nat) => cs.setIfInBounds (off + x.2) x.1) vcells = _ := hfold
          rw [this]
          exact f1
        · contradiction
      · contradiction

def bldA (P : Program) (t : TypeId) (parts : List (Nat × AV)) : Option AV :=
  match tz P t, tk P t with
  | some z, some (.struct _) =>
    match placeL P t with
    | some pl => match fillA (fun i => pl[i]?) (ofVL z.cells.toList) parts with | some cs => some (mkAgg cs) | none => none
    | none => none
  | some z, some (.array _ e) =>
    match tsz P e with
    | some s => match fillA (fun i => some (i * s, s)) (ofVL z.cells.toList) parts with | some cs => some (mkAgg cs) | none => none
    | none => none
  | _, _ => none

theorem bldA_sound {t : TypeId} {parts : List (Nat × AV)} {vparts : Array (Nat × Value)} {r : AV} (h : bldA P t parts = some r) (hl : vparts.size = parts.length)
    (hp : ∀ (i : Nat) (x : Nat × AV) (y : Nat × Value), parts[i]? = some x → vparts.toList[i]? = some y → x.1 = y.1 ∧ RelA K ι n x.2 y.2) (w : World) : ∃ u, (Instr.build t vparts).run P w = .ok u w ∧ RelA K ι n r u := by
  have zrel : ∀ z : Value, z.cells.size = (ofVL z.cells.toList).length ∧ ∀ i, i < (ofVL z.cells.toList).length → RelA K ι n ((ofVL z.cells.toList).getD i .junk) (z.cells.getD i undef) := fun z => by
    refine ⟨by simp [ofVL_length], fun i hi => ?_⟩
    rw [ofVL_length] at hi
    rw [← getD_toList]
    exact ofVL_rel K ι n _ i hi
  unfold bldA at h
  split at h
  · rename_i z fs hz hk
    split at h
    · rename_i pl hpl
      split at h
      · rename_i cs hf
        simp only [Option.some.injEq] at h; subst h
        obtain ⟨vcs, e1, e2, e3⟩ := fill_sound (K := K) (ι := ι) (n := n) _ parts vparts.toList _ cs z.cells hf (by simpa using hl) hp (zrel z).1 (zrel z).2
        refine ⟨.agg vcs, run_build w t vparts vcs ?_, relA_mkAgg e2 e3⟩
        unfold Program.built
        unfold tz at hz
        unfold placeL at hpl
        cases hi : P.info? t with
        | none => rw [hi] at hz; simp at hz
        | some it =>
          rw [hi] at hz
          simp only [Option.bind_some] at hz
          split at hpl
          · rename_i Fs hu
            simp only [hu, hz, hpl]
            simpa using e1
          · contradiction
      · contradiction
    · contradiction
  · rename_i z m e hz hk
    split at h
    · rename_i s hs
      split at h
      · rename_i cs hf
        simp only [Option.some.injEq] at h; subst h
        obtain ⟨vcs, e1, e2, e3⟩ := fill_sound (K := K) (ι := ι) (n := n) _ parts vparts.toList _ cs z.cells hf (by simpa using hl) hp (zrel z).1 (zrel z).2
        refine ⟨.agg vcs, run_build w t vparts vcs ?_, relA_mkAgg e2 e3⟩
        unfold Program.built
        unfold tz at hz
        unfold tsz at hs
        cases hi : P.info? t with
        | none => rw [hi] at hz; simp at hz
        | some it =>
          rw [hi] at hz
          simp only [Option.bind_some] at hz
          cases hie : P.info? e with
          | none => rw [hie] at hs; simp at hs
          | some ie =>
            rw [hie] at hs
            simp only [Option.map_some, Option.some.injEq] at hs
            subst hs
            simp only [tk_array hk, hz, hie]
            exact e1
      · contradiction
    · contradiction
  · contradiction

end
end Go.Proofs.YtjmldlknegbimaaDoor.Sx
