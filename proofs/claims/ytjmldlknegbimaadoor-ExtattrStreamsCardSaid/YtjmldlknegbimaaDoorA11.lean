/- Contracts of functions; regions and code at abstract values. Own library, part 11. -/
import Derived.Test.YtjmldlknegbimaaDoorA10
set_option linter.unusedVariables false
set_option linter.unusedSimpArgs false
namespace Go.Proofs.YtjmldlknegbimaaDoor.Sx
open Go Go.RowKit

mutual
def normA : AV → AV
  | .d x => .d (normD x)
  | .tsl _ es => .d (.sl .any es)
  | .agg cs => mkAgg (normAL cs)
  | .ptr id off => .ptr id off
  | .bsl id off len cap => .bsl id off len cap
  | .clo f cs => .clo f cs
  | .mp id => .mp id
  | .tup cs => .tup cs
  | .junk => .junk
def normAL : List AV → List AV
  | [] => []
  | x :: r => normA x :: normAL r
 end

theorem normAL_length : ∀ l : List AV, (normAL l).length = l.length
  | [] => rfl
  | x :: r => by simp [normAL, normAL_length r]
theorem normAL_get : ∀ (l : List AV) (i : Nat), i < l.length → (normAL l).getD i .junk = normA (l.getD i .junk)
  | [], i, h => by simp at h
  | x :: r, 0, _ => rfl
  | x :: r, i + 1, h => by simpa [normAL] using normAL_get r i (by simpa using h)

theorem RelA.norm {K : Mem} {ι : Nat → Pl} {n : Nat} {x : AV} {v : Value} (h : RelA K ι n x v) : RelA K ι n (normA x) v := by
  induction h with
  | d x v h => rw [normA]; exact .d _ _ h.norm
  | ptr id off h => rw [normA]; exact .ptr _ _ h
  | tsl tok es v h ht hl hc => rw [normA]; exact .d _ _ h
  | bsl id off len cap h => rw [normA]; exact .bsl _ _ _ _ h
  | clo f caps vs hl h _ => rw [normA]; exact .clo _ _ _ hl h
  | mp id h => rw [normA]; exact .mp _ h
  | agg cs vs hl h ih =>
    rw [normA]
    refine relA_mkAgg (by rw [normAL_length]; exact hl) fun i hi => ?_
    rw [normAL_length] at hi
    rw [normAL_get cs i hi]
    exact ih i hi
  | tup cs vs hl h _ => rw [normA]; exact .tup _ _ hl h
  | junk v => rw [normA]; exact .junk v

/-- A function of the program that is entered when it is called. -/
def fnOk (P : Program) (f : FuncId) : Bool :=
  match P.funcs[f]? with
  | some fn => fn.body.isSome && (fn.name != "runtime.NumGoroutine")
  | none => false

theorem run_callFunc_enter {P : Program} {f : FuncId} (h : fnOk P f = true) (args : Array Value) (w : World) : (callFunc f args).run P w = .ok (.enter f args) w := by
  unfold fnOk at h
  cases hf : P.funcs[f]? with
  | none => rw [hf] at h; contradiction
  | some fn =>
    rw [hf] at h
    simp only [Bool.and_eq_true, bne_iff_ne, ne_eq] at h
    have hb : fn.body.isNone = false := by
      cases hbb : fn.body with
      | none => rw [hbb] at h; simp at h
      | some c => rfl
    have hn : (fn.name == "runtime.NumGoroutine") = false := by simpa using h.2
    simp only [callFunc, Sem.run_bind, run_program, Result.andThen_ok, hf, hn, hb, Bool.false_eq_true, if_false]
    rfl

/-- CONTRACT, with the memory of the caller's own: called at such values and such a heap, the function returns the value and leaves the heap. -/
def Fn (P : Program) (G : Gl) (f : FuncId) (args : List AV) (H : List HO) (r : AV) (H' : List HO) : Prop :=
  fnOk P f = true ∧ ∀ (X : Cxt) (K : Mem) (ι : Nat → Pl) (w : World) (vs : Array Value), SR X K ι H w → GOk K G → vs.size = args.length → (∀ i, i < args.length → RelA K ι H.length (args.getD i .junk) (vs.getD i undef)) →
    Calls P f vs w fun e w' => ∃ v, e = .returned v ∧ Left X K ι H.length H' r v w'

/-- CONTRACT of a function of data: the result is data and hangs on the arguments alone. -/
def PF (P : Program) (G : Gl) (f : FuncId) (args : List DV) (r : DV) : Prop := ∀ H, Fn P G f (args.map .d) H (.d r) H

/-! Regions -/
def updO (e : Env) (d : Option Tmp) (v : AV) : Env :=
  match d with
  | some t => upd e t v
  | none => e

def dstOf (all : Array Oper) (j : Nat) : Option Tmp := (all[j]?).bind (·.dst)

def wantV (x : AV) (b : Bool) : Option Bool :=
  match x with
  | .d (.bool c) => some (c == b)
  | .d (.tup _) => some false
  | _ => none

def wantA (all : Array Oper) (e : Env) (g : Option (Nat × Bool)) : Option Bool :=
  match g with
  | none => some true
  | some (j, b) =>
    match dstOf all j with
    | some t => wantV (e t) b
    | none => none

def gW (c : Option Bool) (x y : Prop) : Prop :=
  match c with
  | some true => x
  | some false => y
  | none => False

def callW (P : Program) (G : Gl) (fv : AV) (args : List AV) (H : List HO) (Q : AV → List HO → Prop) : Prop :=
  match fv with
  | .d (.func f) => ∃ r H', Fn P G f (normAL args) H r H' ∧ Q r H'
  | .clo f caps => ∃ r H', Fn P G f (normAL args ++ caps) H r H' ∧ Q r H'
  | _ => False

def opCall (P : Program) (G : Gl) (e : Env) (H : List HO) (op : Op) (Q : AV → List HO → Prop) : Prop :=
  match op with
  | .call ⟨.value f, args, _⟩ => callW P G (ev G e f) (args.toList.map (ev G e)) H Q
  | _ => False

def stepW (P : Program) (G : Gl) (op : Op) (e : Env) (H : List HO) (Q : AV → List HO → Prop) : Prop :=
  match pst P G e op with
  | some r => Q r H
  | none =>
    match hst P G e H op with
    | some (r, H') => Q r H'
    | none => opCall P G e H op Q

def opsW (P : Program) (G : Gl) (all : Array Oper) : List Oper → (Env → List HO → Prop) → Env → List HO → Prop
  | [], Q, e, H => Q e H
  | o :: os, Q, e, H => gW (wantA all e o.guard) (stepW P G o.op e H fun r H' => opsW P G all os Q (updO e o.dst r) H') (opsW P G all os Q (updO e o.dst (.d (.tup []))) H)

/-! A region whose order is open: the same, with what each step is -/
inductive Cls where
  | pure | read | write | fresh
  | rdo (id : Nat)
  | wro (id : Nat)
  deriving DecidableEq

def apC (x : AV) (n : Nat) : Cls :=
  match x with
  | .tsl tok _ => .wro tok
  | .d _ => .wro n
  | _ => .write

def hcls (G : Gl) (e : Env) (H : List HO) (op : Op) (r : AV) : Cls :=
  match op with
  | .load _ x => match ev G e x with | .ptr id _ => .rdo id | _ => .read
  | .lookup _ x _ _ => match ev G e x with | .mp id => .rdo id | _ => .read
  | .convert .. => .read
  | .buildSlice .. => match r with | .d _ => .fresh | _ => .write
  | .store _ x _ => match ev G e x with | .ptr id _ => .wro id | _ => .write
  | .alloc _ => .wro H.length
  | .box .. => .wro H.length
  | .call ⟨.builtin .append, ⟨[s, _]⟩, _⟩ => apC (ev G e s) H.length
  | _ => .write

def Cls.isW : Cls → Bool
  | .write => true
  | .wro _ => true
  | _ => false

/-- A call that leaves the heap may stand as one that only reads it. -/
def ClsCall (c : Cls) (H H' : List HO) : Prop :=
  match c with
  | .write => True
  | .read => H' = H
  | _ => False

def callT (P : Program) (G : Gl) (fv : AV) (args : List AV) (H : List HO) (Q : Cls → AV → List HO → Prop) : Prop :=
  match fv, allD (normAL args) with
  | .d (.func f), some ds => ∃ r, PF P G f ds r ∧ Q .pure (.d r) H
  | .d (.func f), none => ∃ r H' c, Fn P G f (normAL args) H r H' ∧ ClsCall c H H' ∧ Q c r H'
  | .clo f caps, _ => ∃ r H' c, Fn P G f (normAL args ++ caps) H r H' ∧ ClsCall c H H' ∧ Q c r H'
  | _, _ => False

def opCallT (P : Program) (G : Gl) (e : Env) (H : List HO) (op : Op) (Q : Cls → AV → List HO → Prop) : Prop :=
  match op with
  | .call ⟨.value f, args, _⟩ => callT P G (ev G e f) (args.toList.map (ev G e)) H Q
  | _ => False

def stepT (P : Program) (G : Gl) (op : Op) (e : Env) (H : List HO) (Q : Cls → AV → List HO → Prop) : Prop :=
  match pst P G e op with
  | some r => Q .pure r H
  | none =>
    match hst P G e H op with
    | some (r, H') => Q (hcls G e H op r) r H'
    | none => opCallT P G e H op Q

def trW (P : Program) (G : Gl) (all : Array Oper) : List Oper → List Cls → (List Cls → Env → List HO → Prop) → Env → List HO → Prop
  | [], cs, Q, e, H => Q cs e H
  | o :: os, cs, Q, e, H =>
    gW (wantA all e o.guard) (stepT P G o.op e H fun c r H' => trW P G all os (cs ++ [c]) Q (updO e o.dst r) H') (trW P G all os (cs ++ [.pure]) Q (updO e o.dst (.d (.tup []))) H)

/-- The operations that must come first, as a number's bits, for each operation. -/
def ancB : List Oper → List Nat → List Nat
  | [], acc => acc
  | o :: os, acc => ancB os (acc ++ [o.after.toList.foldl (fun s e => if Region.binds .any e then s ||| 2 ^ e.on ||| acc.getD e.on 0 else s) 0])

def opTmps (ops : Array Oper) (o : Oper) : List Tmp :=
  (o.op.operands.toList.filterMap fun | .tmp t => some t | _ => none) ++
  (match o.guard with
   | some (g, _) => (dstOf ops g).toList
   | none => [])

def clash (a b : Cls) : Bool :=
  match a, b with
  | .write, .read => true
  | .read, .write => true
  | .write, .write => true
  | .wro _, .read => true
  | .read, .wro _ => true
  | .wro _, .write => true
  | .write, .wro _ => true
  | .wro _, .wro _ => true
  | .write, .rdo _ => true
  | .rdo _, .write => true
  | .rdo i, .wro j => i == j
  | .wro i, .rdo j => i == j
  | _, _ => false

/-- The order of a region does not matter: what reads a slot stands behind what writes it, two writes of one slot do not occur, and two uses of memory that could part are ordered. -/
def drawOk (ops : Array Oper) (cs : List Cls) : Bool :=
  let an := ancB ops.toList []
  (List.range ops.size).all fun i =>
    let o := ops.getD i default
    let a := an.getD i 0
    o.after.toList.all (fun e => !Region.binds .any e || decide (e.on < i)) &&
    (match o.op with | .select .. => false | _ => true) &&
    (List.range ops.size).all fun j =>
      let p := ops.getD j default
      let pa := an.getD j 0
      (i == j) ||
      ((match p.dst with
        | some d => (!((opTmps ops o).contains d) || (if j < i then a.testBit j else pa.testBit i)) && (o.dst != some d)
        | none => true) &&
       ((if j < i then a.testBit j else pa.testBit i) || !(clash (cs.getD i .pure) (cs.getD j .pure))))

/-! Code -/
/-- The heap's first m objects are kept, and the slots that name no other. -/
structure Weak (n0 : Nat) (e : Env) (H : List HO) (e' : Env) (H' : List HO) : Prop where
  len : n0 ≤ H'.length
  sub : H'.length ≤ H.length
  obj : ∀ i, i < H'.length → H'[i]? = some .dead ∨ (H'[i]? = H[i]? ∧ ∀ cs, H[i]? = some (.box cs) → AV.ltL H'.length cs = true)
  env : ∀ t, e' t = .junk ∨ (e' t = e t ∧ (e t).lt H'.length = true)

/-- A slice that is nil or full may be seen as one to which is appended. -/
inductive Ghost : Env → List HO → Env → List HO → Prop
  | refl (e : Env) (H : List HO) : Ghost e H e H
  | step (e : Env) (H : List HO) (t : Nat) (st : St) (es : List (List DV)) (z : Nat) (e' : Env) (H' : List HO) (h : e t = .d (.sl st es)) (hst : st ≠ .any)
      (r : Ghost (upd e t (.tsl H.length es)) (H ++ [.tok z es.length]) e' H') : Ghost e H e' H'

def wpc (P : Program) (G : Gl) (n0 : Nat) : Code → (Exit → Env → List HO → Prop) → Env → List HO → Prop
  | .skip, Q, e, H => Q .normal e H
  | .label _, Q, e, H => Q .normal e H
  | .ret, Q, e, H => Q .ret e H
  | .exit id, Q, e, H => Q (.exit id) e H
  | .seq a b, Q, e, H => wpc P G n0 a (fun x e H => match x with | .normal => wpc P G n0 b Q e H | x => Q x e H) e H
  | .cond c a b, Q, e, H =>
    match ev G e c with
    | .d (.bool t) => gW (some t) (wpc P G n0 a Q e H) (wpc P G n0 b Q e H)
    | _ => False
  | .block id a, Q, e, H => wpc P G n0 a (fun x e H => match x with | .exit id' => if id' = id then Q .normal e H else Q (.exit id') e H | x => Q x e H) e H
  | .loop a, Q, e, H => ∃ (e0 : Env) (H0 : List HO) (I : Nat → Env → List HO → Prop) (n : Nat), Ghost e H e0 H0 ∧ I n e0 H0 ∧ ∀ n e' H', I n e' H' →
      wpc P G n0 a (fun x e'' H'' => match x with | .normal => ∃ m e3 H3, m < n ∧ Weak n0 e'' H'' e3 H3 ∧ I m e3 H3 | x => Q x e'' H'') e' H'
  | .region _ ops false, Q, e, H => opsW P G ops ops.toList (Q .normal) e H
  | .region _ ops true, Q, e, H => trW P G ops ops.toList [] (fun cs e H => drawOk ops cs = true ∧ Q .normal e H) e H
  | _, _, _, _ => False

/-- Every slot that is written is one of the frame's. -/
def dstOk (nt : Nat) : Code → Bool
  | .seq a b => dstOk nt a && dstOk nt b
  | .cond _ a b => dstOk nt a && dstOk nt b
  | .block _ a => dstOk nt a
  | .loop a => dstOk nt a
  | .region _ ops _ => ops.toList.all fun o => match o.dst with | some d => decide (d < nt) | none => true
  | _ => true

/-! What a frame is -/
structure REnv (K : Mem) (ι : Nat → Pl) (n nt : Nat) (e : Env) (a : Act) : Prop where
  defers : a.defers = []
  size : a.tmps.size = nt
  rel : ∀ t, RelA K ι n (e t) (a.tmps.getD t undef)

def Holds (X : Cxt) (G : Gl) (nt : Nat) (Q : Exit → Env → List HO → Prop) : Exit → Act → World → Prop :=
  fun x a w => ∃ e H K ι, Q x e H ∧ SR X K ι H w ∧ GOk K G ∧ REnv K ι H.length nt e a

def AWP (P : Program) (G : Gl) (nt n0 : Nat) (c : Code) (Q : Exit → Env → List HO → Prop) (e : Env) (H : List HO) : Prop :=
  ∀ X K ι a w, X.n0 = n0 → SR X K ι H w → GOk K G → REnv K ι H.length nt e a → Code.wp P c (Holds X G nt Q) a w

section
variable {P : Program} {X : Cxt} {K K' : Mem} {ι ι' : Nat → Pl} {n nt n0 : Nat} {H : List HO} {w w' : World} {G : Gl}

theorem getD_set_tmp (a : Array Value) (d t : Nat) (v : Value) (hd : d < a.size) : (a.setIfInBounds d v).getD t undef = if t = d then v else a.getD t undef := by
  simp only [Array.getD_eq_getD_getElem?, Array.getElem?_setIfInBounds]
  by_cases h : d = t
  · subst h; simp [hd]
  · rw [if_neg h, if_neg (fun e => h e.symm)]

theorem REnv.mono {e : Env} {a : Act} {n' : Nat} (h : REnv K ι n nt e a) (hK : Mem.le K K') (hn : n ≤ n') (hι : Pls.le n ι ι') : REnv K' ι' n' nt e a :=
  ⟨h.defers, h.size, fun t => (h.rel t).mono hK hn hι⟩

theorem REnv.put {e : Env} {a : Act} {d : Option Tmp} {r : AV} {v : Value} (h : REnv K ι n nt e a) (hd : ∀ t, d = some t → t < nt) (hr : RelA K ι n r v) : REnv K ι n nt (updO e d r) (a.put d v) := by
  cases d with
  | none => exact h
  | some d =>
    have hlt := hd d rfl
    refine ⟨h.defers, by simpa [Act.put] using h.size, fun t => ?_⟩
    simp only [updO, upd, Act.put]
    rw [getD_set_tmp _ _ _ _ (by rw [h.size]; exact hlt)]
    split
    · exact hr
    · exact h.rel t

/-- A step of the machine that hands a value to a slot. -/
theorem oper_of_next {o : Oper} {a : Act} {nx : Next} {v : Value} {K1 : Act → World → Prop} {Q : Exit → Act → World → Prop} (h : (execOp a.eval o).run P w = .ok nx w') (hv : nextV nx = some v) (hk : K1 (a.put o.dst v) w') :
    o.wp P a w K1 Q := by
  unfold Oper.wp
  rw [h]
  cases nx <;> simp only [nextV, Option.some.injEq] at hv <;> first | contradiction | (subst hv; exact hk)

theorem norm_args {ρ : Operand → Value} {e : Env} (hρ : ∀ x, RelA K ι n (ev G e x) (ρ x)) (args : Array Operand) :
    (args.map ρ).size = (normAL (args.toList.map (ev G e))).length ∧ ∀ i, i < (normAL (args.toList.map (ev G e))).length → RelA K ι n ((normAL (args.toList.map (ev G e))).getD i .junk) ((args.map ρ).getD i undef) := by
  refine ⟨by rw [normAL_length]; simp, fun i hi => ?_⟩
  rw [normAL_length] at hi
  have hi' : i < args.size := by simpa using hi
  rw [normAL_get _ _ hi]
  have e1 : (args.toList.map (ev G e)).getD i .junk = ev G e args[i] := by simp [List.getD_eq_getElem?_getD, hi']
  have e2 : (args.map ρ).getD i undef = ρ args[i] := by simp [Array.getD, hi']
  rw [e1, e2]
  exact (hρ _).norm

/-- A call. -/
theorem call_sound {e : Env} {o : Oper} {a : Act} {f : Operand} {args : Array Operand} {ts : Array TypeId} (hop : o.op = .call ⟨.value f, args, ts⟩) {fv : AV} (hfv : ev G e f = fv) {F : FuncId} {caps : List AV}
    (hF : (fv = .d (.func F) ∧ caps = []) ∨ fv = .clo F caps) {r : AV} {H' : List HO} (hfn : Fn P G F (normAL (args.toList.map (ev G e)) ++ caps) H r H') (hsr : SR X K ι H w) (hG : GOk K G)
    (hρ : ∀ x, RelA K ι H.length (ev G e x) (a.eval x)) {K1 : Act → World → Prop} {Q : Exit → Act → World → Prop} (hk : ∀ v w', Left X K ι H.length H' r v w' → K1 (a.put o.dst v) w') : o.wp P a w K1 Q := by
  obtain ⟨hok, hcall⟩ := hfn
  obtain ⟨n1, n2⟩ := norm_args hρ args
  have hfr := hρ f
  rw [hfv] at hfr
  have : ∃ cv : Array Value, a.eval f = .func (.func F) #[] cv ∧ cv.size = caps.length ∧ ∀ i, i < caps.length → RelA K ι H.length (caps.getD i .junk) (cv.getD i undef) := by
    rcases hF with ⟨rfl, rfl⟩ | rfl
    · have hg := hfr.get
      generalize hv : a.eval f = v at hg
      cases hg
      exact ⟨#[], rfl, rfl, fun i hi => by simp at hi⟩
    · generalize hv : a.eval f = v at hfr
      cases hfr with
      | clo _ _ vs hl hr => exact ⟨vs, rfl, hl, hr⟩
  obtain ⟨cv, hcv, hcl, hcr⟩ := this
  have hrun : (execOp a.eval o).run P w = .ok (.enter F (args.map a.eval ++ cv)) w := by
    unfold execOp
    rw [hop]
    simp only [resolve, Sem.run_bind, hcv, Deferred.ofValue, Sem.run_pure, Result.andThen_ok, invoke, run_callFunc_enter hok]
    congr 2
    simp
  unfold Oper.wp
  rw [hrun]
  refine (hcall X K ι w (args.map a.eval ++ cv) hsr hG (by simp [n1, hcl]) fun i hi => ?_).mono ?_
  · rw [Array.getD_eq_getD_getElem?, List.getD_eq_getElem?_getD, List.getElem?_append]
    by_cases hc : i < (normAL (args.toList.map (ev G e))).length
    · rw [if_pos hc, Array.getElem?_append_left (by rw [n1]; exact hc)]
      have := n2 i hc
      rwa [Array.getD_eq_getD_getElem?, List.getD_eq_getElem?_getD] at this
    · rw [if_neg hc, Array.getElem?_append_right (by rw [n1]; omega), n1]
      have := hcr (i - (normAL (args.toList.map (ev G e))).length) (by simp at hi; omega)
      rwa [Array.getD_eq_getD_getElem?, List.getD_eq_getElem?_getD] at this
  · rintro en w' ⟨v, rfl, hl⟩
    exact hk v w' hl

theorem yielded_of {ops : Array Oper} {e : Env} {a : Act} {b : Bool} {o : Oper} (he : REnv K ι n nt e a) (hw : wantA ops e o.guard = some b) (hd : ∀ (j : Nat) (o' : Oper) (t : Tmp), ops[j]? = some o' → o'.dst = some t → t < nt) :
    Region.wanted o (yielded ops a.tmps) = b := by
  unfold wantA at hw
  unfold Region.wanted
  split at hw
  · rename_i hg
    simp only [Option.some.injEq] at hw; subst hw
    rw [hg]
  · rename_i j want hg
    rw [hg]
    simp only
    split at hw
    · rename_i t ht
      have htn : t < nt := by
        unfold dstOf at ht
        cases hj : ops[j]? with
        | none => rw [hj] at ht; simp at ht
        | some o' => rw [hj] at ht; exact hd j o' t hj ht
      have hrel := he.rel t
      have hv : a.tmps[t]? = some (a.tmps.getD t undef) := by simp [Array.getD, he.size, htn]
      have hy : yielded ops a.tmps j = match a.tmps.getD t undef with | .bool b => some b | _ => none := by
        unfold yielded
        unfold dstOf at ht
        rw [ht]
        simp only [Option.bind_some]
        rw [hv]
        cases a.tmps.getD t undef <;> rfl
      unfold wantV at hw
      split at hw
      · rename_i c hc
        simp only [Option.some.injEq] at hw; subst hw
        rw [hc] at hrel
        have hg := hrel.get
        generalize a.tmps.getD t undef = u at hg hy
        cases hg
        rw [hy]
        cases c <;> cases want <;> rfl
      · rename_i c hc
        simp only [Option.some.injEq] at hw; subst hw
        rw [hc] at hrel
        have hg := hrel.get
        generalize a.tmps.getD t undef = u at hg hy
        cases hg
        rw [hy]
        rfl
      · contradiction
    · contradiction

/-- One step, whatever it is. -/
theorem stepW_sound {e : Env} {o : Oper} {a : Act} {Q : AV → List HO → Prop} (h : stepW P G o.op e H Q) (hsr : SR X K ι H w) (hG : GOk K G) (he : REnv K ι H.length nt e a)
    {K1 : Act → World → Prop} {Q1 : Exit → Act → World → Prop} (hk : ∀ r H' v w', Q r H' → Left X K ι H.length H' r v w' → K1 (a.put o.dst v) w') : o.wp P a w K1 Q1 := by
  have hρ := ev_rel (G := G) hG he.rel
  unfold stepW at h
  split at h
  · rename_i r hp
    obtain ⟨v, hrun, hr⟩ := pst_sound (P := P) hp hρ hsr.agree
    exact oper_of_next hrun rfl (hk r H v w h (Left.of_eq hsr hr))
  · split at h
    · rename_i r H' hh
      obtain ⟨nx, v, w', hrun, hv, hl⟩ := hst_sound (P := P) hh hsr hρ
      exact oper_of_next hrun hv (hk r H' v w' h hl)
    · unfold opCall at h
      split at h
      · rename_i f args ts hop
        unfold callW at h
        split at h
        · rename_i F hF
          obtain ⟨r, H', hfn, hq⟩ := h
          exact call_sound hop hF (.inl ⟨rfl, rfl⟩) (by simpa using hfn) hsr hG hρ (fun v w' hl => hk r H' v w' hq hl)
        · rename_i F caps hF
          obtain ⟨r, H', hfn, hq⟩ := h
          exact call_sound hop hF (.inr rfl) hfn hsr hG hρ (fun v w' hl => hk r H' v w' hq hl)
        · contradiction
      · contradiction

theorem opsW_sound (ops : Array Oper) (hd : ∀ (j : Nat) (o' : Oper) (t : Tmp), ops[j]? = some o' → o'.dst = some t → t < nt) : ∀ (l : List Oper) (k : Nat) (Q : Env → List HO → Prop) (e : Env) (H : List HO) (K : Mem) (ι : Nat → Pl) (a : Act) (w : World),
    l = ops.toList.drop k → opsW P G ops l Q e H → SR X K ι H w → GOk K G → REnv K ι H.length nt e a →
    ∀ Q1 : Exit → Act → World → Prop, (∀ e H K ι a w, Q e H → SR X K ι H w → GOk K G → REnv K ι H.length nt e a → Q1 .normal a w) → wpOps P ops Q1 (List.range' k l.length) a w
  | [], k, Q, e, H, K, ι, a, w, hl, h, hsr, hG, he, Q1, hq => hq e H K ι a w h hsr hG he
  | o :: os, k, Q, e, H, K, ι, a, w, hl, h, hsr, hG, he, Q1, hq => by
    have hko : ops[k]? = some o := by
      have : ops.toList[k]? = some o := by
        have := congrArg (fun l : List Oper => l[0]?) hl
        simp at this
        simpa using this.symm
      simpa using this
    have hos : os = ops.toList.drop (k + 1) := by
      have := congrArg List.tail hl
      simpa using this
    have hdo : ∀ t, o.dst = some t → t < nt := fun t ht => hd k o t hko ht
    simp only [List.length_cons, List.range'_succ]
    rw [wpOps]
    simp only [hko]
    simp only [opsW] at h
    cases hwa : wantA ops e o.guard with
    | none => rw [hwa] at h; exact h.elim
    | some b =>
      have hw := yielded_of (o := o) he hwa hd
      rw [hw]
      cases b with
      | true =>
        rw [hwa] at h
        simp only [gW] at h
        simp only [if_true]
        left
        refine stepW_sound h hsr hG he ?_
        rintro r H' v w' hrest ⟨K', ι', s1, s2, s3, s4, s5⟩
        exact opsW_sound ops hd os (k + 1) Q _ H' K' ι' _ w' hos hrest s1 (hG.mono s3) ((he.mono s3 s5 s4).put hdo s2) Q1 hq
      | false =>
        rw [hwa] at h
        simp only [gW] at h
        simp only [Bool.false_eq_true, if_false]
        exact opsW_sound ops hd os (k + 1) Q _ H K ι _ w hos h hsr hG (he.put hdo (.d _ _ (.tup _ _ rfl (fun i hi => by simp at hi)))) Q1 hq

end
end Go.Proofs.YtjmldlknegbimaaDoor.Sx
