/- The library, joined: A11 A12 A13 A14. -/
import Derived.Test.YtjmldlknegbimaaGreatDoorM2
import Derived.OrdersIn
import Derived.RangeFuncRecord
import Derived.RangeFuncLeaves
/- Contracts of functions; regions and code at abstract values. Own library, part 11. -/
set_option linter.unusedVariables false
set_option linter.unusedSimpArgs false
namespace Go.Proofs.YtjmldlknegbimaaGreatDoor.Sx
open Go Go.RowKit

mutual
def normA : AV → AV
  | .d x => .d (normD x)
  | .tsl _ es => .d (.sl .any es)
  | .agg cs => mkAgg (normAL cs)
  | .ptr id off => .ptr id off
  | .bsl id off len cap => .bsl id off len cap
  | .clo f cs => .clo f cs
  | .mp id => .mp id
  | .yld id => .yld id
  | .dfr Ds => .dfr Ds
  | .tup cs => .tup cs
  | .junk => .junk
def normAL : List AV → List AV
  | [] => []
  | x :: r => normA x :: normAL r
 end

theorem normAL_length : ∀ l : List AV, (normAL l).length = l.length
  | [] => rfl
  | x :: r => by simp [normAL, normAL_length r]
theorem normAL_get : ∀ (l : List AV) (i : Nat), i < l.length → (normAL l).getD i .junk = normA (l.getD i .junk)
  | [], i, h => by simp at h
  | x :: r, 0, _ => rfl
  | x :: r, i + 1, h => by simpa [normAL] using normAL_get r i (by simpa using h)

theorem RelA.norm {K : Mem} {ι : Nat → Pl} {n : Nat} {x : AV} {v : Value} (h : RelA K ι n x v) : RelA K ι n (normA x) v := by
  induction h with
  | d x v h => rw [normA]; exact .d _ _ h.norm
  | ptr id off h => rw [normA]; exact .ptr _ _ h
  | tsl tok es v h ht hl hc => rw [normA]; exact .d _ _ h
  | bsl id off len cap h => rw [normA]; exact .bsl _ _ _ _ h
  | clo f caps vs hl h _ => rw [normA]; exact .clo _ _ _ hl h
  | mp id h => rw [normA]; exact .mp _ h
  | yld id h => rw [normA]; exact .yld _ h
  | dfr Ds v => rw [normA]; exact .dfr Ds v
  | agg cs vs hl h ih =>
    rw [normA]
    refine relA_mkAgg (by rw [normAL_length]; exact hl) fun i hi => ?_
    rw [normAL_length] at hi
    rw [normAL_get cs i hi]
    exact ih i hi
  | tup cs vs hl h _ => rw [normA]; exact .tup _ _ hl h
  | junk v => rw [normA]; exact .junk v

/-- A function of the program that is entered when it is called. -/
def fnOk (P : Program) (f : FuncId) : Bool :=
  match P.funcs[f]? with
  | some fn => fn.body.isSome && (fn.name != "runtime.NumGoroutine")
  | none => false

theorem run_callFunc_enter {P : Program} {f : FuncId} (h : fnOk P f = true) (args : Array Value) (w : World) : (callFunc f args).run P w = .ok (.enter f args) w := by
  unfold fnOk at h
  cases hf : P.funcs[f]? with
  | none => rw [hf] at h; contradiction
  | some fn =>
    rw [hf] at h
    simp only [Bool.and_eq_true, bne_iff_ne, ne_eq] at h
    have hb : fn.body.isNone = false := by
      cases hbb : fn.body with
      | none => rw [hbb] at h; simp at h
      | some c => rfl
    have hn : (fn.name == "runtime.NumGoroutine") = false := by simpa using h.2
    simp only [callFunc, Sem.run_bind, run_program, Result.andThen_ok, hf, hn, hb, Bool.false_eq_true, if_false]
    rfl

/-- CONTRACT, with the memory of the caller's own: called at such values and such a heap, the function returns the value and leaves the heap. -/
def Fn (P : Program) (G : Gl) (f : FuncId) (args : List AV) (H : List HO) (r : AV) (H' : List HO) : Prop :=
  fnOk P f = true ∧ ∀ (X : Cxt) (K : Mem) (ι : Nat → Pl) (w : World) (vs : Array Value), SR X K ι H w → GOk K G → vs.size = args.length → (∀ i, i < args.length → RelA K ι H.length (args.getD i .junk) (vs.getD i undef)) →
    Calls P f vs w fun e w' => ∃ v, e = .returned v ∧ Left X K ι H.length H' r v w'

/-- CONTRACT of a function of data: the result is data and hangs on the arguments alone. -/
def PF (P : Program) (G : Gl) (f : FuncId) (args : List DV) (r : DV) : Prop := ∀ H, Fn P G f (args.map .d) H (.d r) H

/-! A range over a function -/
/-- A fence that lets everything in. -/
abbrev FR (r : Option Nat) : Fence := { fn := fun _ => True, depth := none, alive := false, round := r }

/-- CONTRACT of a call of yield: the round that it starts returns the value and leaves the heap. -/
def YFn (P : Program) (G : Gl) (id : Nat) (args : List AV) (H : List HO) (r : AV) (H' : List HO) : Prop :=
  id < H.length ∧ ∀ (X : Cxt) (K : Mem) (ι : Nat → Pl) (w : World) (vs : Array Value), SR X K ι H w → GOk K G → vs.size = args.length → (∀ i, i < args.length → RelA K ι H.length (args.getD i .junk) (vs.getD i undef)) →
    ∃ fn tmps assign body, (Instr.yield (ι id).block vs).run P w = .ok (.round (ι id).block fn tmps assign body) w ∧
      RoundIn Fence.wide 0 P (ι id).block fn tmps assign body w fun e w' => ∃ v, e = .returned v ∧ Left X K ι H.length H' r v w'

/-- The marks among the deferred calls. -/
def dfrs : AV → List Deferred
  | .dfr Ds => Ds.map fun D => { target := .collected D, args := #[] }
  | _ => []

/-- What the slots hold that count. -/
def At : List (Nat × AV) → Env → Prop
  | [], _ => True
  | (t, v) :: r, e => e t = v ∧ At r e
theorem At_nil (e : Env) : At [] e := trivial
theorem At_mem {e : Env} : ∀ {l : List (Nat × AV)}, At l e → ∀ p ∈ l, e p.1 = p.2
  | [], _, p, hp => by simp at hp
  | (t, v) :: r, h, p, hp => by
    simp only [List.mem_cons] at hp
    rcases hp with rfl | hp
    · exact h.1
    · exact At_mem h.2 p hp

def ltAll (m : Nat) : List (Nat × AV) → Bool
  | [] => true
  | (_, v) :: r => v.lt m && ltAll m r
theorem ltAll_mem {m : Nat} : ∀ {l : List (Nat × AV)}, ltAll m l = true → ∀ p ∈ l, p.2.lt m = true
  | [], _, p, hp => by simp at hp
  | (t, v) :: r, h, p, hp => by
    simp only [ltAll, Bool.and_eq_true] at h
    simp only [List.mem_cons] at hp
    rcases hp with rfl | hp
    · exact h.1
    · exact ltAll_mem h.2 p hp

/-- The slots a round starts from. -/
def envOf : List (Nat × AV) → Env
  | [], _ => .junk
  | (t, v) :: r, u => if u = t then v else envOf r u

/-- Values put into slots. -/
def putsA : List Tmp → List AV → Env → Env
  | t :: ts, v :: vs, e => putsA ts vs (fun u => if u = t then v else e u)
  | _, _, e => e

/-! Regions -/
def updO (e : Env) (d : Option Tmp) (v : AV) : Env :=
  match d with
  | some t => upd e t v
  | none => e

def dstOf (all : Array Oper) (j : Nat) : Option Tmp := (all[j]?).bind (·.dst)

def wantV (x : AV) (b : Bool) : Option Bool :=
  match x with
  | .d (.bool c) => some (c == b)
  | .d (.tup _) => some false
  | _ => none

def wantA (all : Array Oper) (e : Env) (g : Option (Nat × Bool)) : Option Bool :=
  match g with
  | none => some true
  | some (j, b) =>
    match dstOf all j with
    | some t => wantV (e t) b
    | none => none

def gW (c : Option Bool) (x y : Prop) : Prop :=
  match c with
  | some true => x
  | some false => y
  | none => False

def callW (P : Program) (G : Gl) (fv : AV) (args : List AV) (H : List HO) (Q : AV → List HO → Prop) : Prop :=
  match fv with
  | .d (.func f) => ∃ r H', Fn P G f (normAL args) H r H' ∧ Q r H'
  | .clo f caps => ∃ r H', Fn P G f (normAL args ++ caps) H r H' ∧ Q r H'
  | .yld id => ∃ r H', YFn P G id (normAL args) H r H' ∧ Q r H'
  | _ => False

def opCall (P : Program) (G : Gl) (e : Env) (H : List HO) (op : Op) (Q : AV → List HO → Prop) : Prop :=
  match op with
  | .call ⟨.value f, args, _⟩ => callW P G (ev G e f) (args.toList.map (ev G e)) H Q
  | _ => False

def stepW (P : Program) (G : Gl) (op : Op) (e : Env) (H : List HO) (Q : AV → List HO → Prop) : Prop :=
  match pst P G e op with
  | some r => Q r H
  | none =>
    match hst P G e H op with
    | some (r, H') => Q r H'
    | none => opCall P G e H op Q

def opsW (P : Program) (G : Gl) (all : Array Oper) : List Oper → (Env → List HO → Prop) → Env → List HO → Prop
  | [], Q, e, H => Q e H
  | o :: os, Q, e, H => gW (wantA all e o.guard) (stepW P G o.op e H fun r H' => opsW P G all os Q (updO e o.dst r) H') (opsW P G all os Q (updO e o.dst (.d (.tup []))) H)

/-! A region whose order is open: the same, with what each step is -/
inductive Cls where
  | pure | read | write | fresh
  | rdo (id : Nat)
  | wro (id : Nat)
  deriving DecidableEq

def apC (x : AV) (n : Nat) : Cls :=
  match x with
  | .tsl tok _ => .wro tok
  | .d _ => .wro n
  | _ => .write

def hcls (G : Gl) (e : Env) (H : List HO) (op : Op) (r : AV) : Cls :=
  match op with
  | .load _ x => match ev G e x with | .ptr id _ => .rdo id | _ => .read
  | .lookup _ x _ _ => match ev G e x with | .mp id => .rdo id | _ => .read
  | .convert .. => .read
  | .buildSlice .. => match r with | .d _ => .fresh | _ => .write
  | .store _ x _ => match ev G e x with | .ptr id _ => .wro id | _ => .write
  | .alloc _ => .wro H.length
  | .box .. => .wro H.length
  | .call ⟨.builtin .append, ⟨[s, _]⟩, _⟩ => apC (ev G e s) H.length
  | _ => .write

def Cls.isW : Cls → Bool
  | .write => true
  | .wro _ => true
  | _ => false

/-- A call that leaves the heap may stand as one that only reads it. -/
def ClsCall (c : Cls) (H H' : List HO) : Prop :=
  match c with
  | .write => True
  | .read => H' = H
  | _ => False

def callT (P : Program) (G : Gl) (fv : AV) (args : List AV) (H : List HO) (Q : Cls → AV → List HO → Prop) : Prop :=
  match fv, allD (normAL args) with
  | .d (.func f), some ds => ∃ r, PF P G f ds r ∧ Q .pure (.d r) H
  | .d (.func f), none => ∃ r H' c, Fn P G f (normAL args) H r H' ∧ ClsCall c H H' ∧ Q c r H'
  | .clo f caps, _ => ∃ r H' c, Fn P G f (normAL args ++ caps) H r H' ∧ ClsCall c H H' ∧ Q c r H'
  | _, _ => False

def opCallT (P : Program) (G : Gl) (e : Env) (H : List HO) (op : Op) (Q : Cls → AV → List HO → Prop) : Prop :=
  match op with
  | .call ⟨.value f, args, _⟩ => callT P G (ev G e f) (args.toList.map (ev G e)) H Q
  | _ => False

def stepT (P : Program) (G : Gl) (op : Op) (e : Env) (H : List HO) (Q : Cls → AV → List HO → Prop) : Prop :=
  match pst P G e op with
  | some r => Q .pure r H
  | none =>
    match hst P G e H op with
    | some (r, H') => Q (hcls G e H op r) r H'
    | none => opCallT P G e H op Q

def trW (P : Program) (G : Gl) (all : Array Oper) : List Oper → List Cls → (List Cls → Env → List HO → Prop) → Env → List HO → Prop
  | [], cs, Q, e, H => Q cs e H
  | o :: os, cs, Q, e, H =>
    gW (wantA all e o.guard) (stepT P G o.op e H fun c r H' => trW P G all os (cs ++ [c]) Q (updO e o.dst r) H') (trW P G all os (cs ++ [.pure]) Q (updO e o.dst (.d (.tup []))) H)

/-- The operations that must come first, as a number's bits, for each operation. -/
def ancB : List Oper → List Nat → List Nat
  | [], acc => acc
  | o :: os, acc => ancB os (acc ++ [o.after.toList.foldl (fun s e => if Region.binds .any e then s ||| 2 ^ e.on ||| acc.getD e.on 0 else s) 0])

def opTmps (ops : Array Oper) (o : Oper) : List Tmp :=
  (o.op.operands.toList.filterMap fun | .tmp t => some t | _ => none) ++
  (match o.guard with
   | some (g, _) => (dstOf ops g).toList
   | none => [])

def clash (a b : Cls) : Bool :=
  match a, b with
  | .write, .read => true
  | .read, .write => true
  | .write, .write => true
  | .wro _, .read => true
  | .read, .wro _ => true
  | .wro _, .write => true
  | .write, .wro _ => true
  | .wro _, .wro _ => true
  | .write, .rdo _ => true
  | .rdo _, .write => true
  | .rdo i, .wro j => i == j
  | .wro i, .rdo j => i == j
  | _, _ => false

/-- The order of a region does not matter: what reads a slot stands behind what writes it, two writes of one slot do not occur, and two uses of memory that could part are ordered. -/
def drawOk (ops : Array Oper) (cs : List Cls) : Bool :=
  let an := ancB ops.toList []
  (List.range ops.size).all fun i =>
    let o := ops.getD i default
    let a := an.getD i 0
    o.after.toList.all (fun e => !Region.binds .any e || decide (e.on < i)) &&
    (match o.op with | .select .. => false | _ => true) &&
    (List.range ops.size).all fun j =>
      let p := ops.getD j default
      let pa := an.getD j 0
      (i == j) ||
      ((match p.dst with
        | some d => (!((opTmps ops o).contains d) || (if j < i then a.testBit j else pa.testBit i)) && (o.dst != some d)
        | none => true) &&
       ((if j < i then a.testBit j else pa.testBit i) || !(clash (cs.getD i .pure) (cs.getD j .pure))))

/-! Code -/
/-- The heap's first m objects are kept, and the slots that name no other. -/
structure Weak (n0 : Nat) (e : Env) (H : List HO) (e' : Env) (H' : List HO) : Prop where
  len : n0 ≤ H'.length
  sub : H'.length ≤ H.length
  obj : ∀ i, i < H'.length → H'[i]? = some .dead ∨ (H'[i]? = H[i]? ∧ (∀ cs, H[i]? = some (.box cs) → AV.ltL H'.length cs = true) ∧
    ∀ st vals ps assign body, H[i]? = some (.loop st vals ps assign body) → ltAll H'.length vals = true)
  env : ∀ t, (e' t = .junk ∧ ∀ Ds, e t ≠ .dfr Ds) ∨ (e' t = e t ∧ (e t).lt H'.length = true)

/-- A slice that is nil or full may be seen as one to which is appended. -/
inductive Ghost : Env → List HO → Env → List HO → Prop
  | refl (e : Env) (H : List HO) : Ghost e H e H
  | step (e : Env) (H : List HO) (t : Nat) (st : St) (es : List (List DV)) (z : Nat) (e' : Env) (H' : List HO) (h : e t = .d (.sl st es)) (hst : st ≠ .any)
      (r : Ghost (upd e t (.tsl H.length es)) (H ++ [.tok z es.length]) e' H') : Ghost e H e' H'

def wpc (P : Program) (G : Gl) (n0 : Nat) : Code → (Exit → Env → List HO → Prop) → Env → List HO → Prop
  | .skip, Q, e, H => Q .normal e H
  | .label _, Q, e, H => Q .normal e H
  | .ret, Q, e, H => Q .ret e H
  | .exit id, Q, e, H => Q (.exit id) e H
  | .seq a b, Q, e, H => wpc P G n0 a (fun x e H => match x with | .normal => wpc P G n0 b Q e H | x => Q x e H) e H
  | .cond c a b, Q, e, H =>
    match ev G e c with
    | .d (.bool t) => gW (some t) (wpc P G n0 a Q e H) (wpc P G n0 b Q e H)
    | _ => False
  | .block id a, Q, e, H => wpc P G n0 a (fun x e H => match x with | .exit id' => if id' = id then Q .normal e H else Q (.exit id') e H | x => Q x e H) e H
  | .loop a, Q, e, H => ∃ (e0 : Env) (H0 : List HO) (I : Nat → Env → List HO → Prop) (n : Nat), Ghost e H e0 H0 ∧ I n e0 H0 ∧ ∀ n e' H', I n e' H' →
      wpc P G n0 a (fun x e'' H'' => match x with | .normal => ∃ m e3 H3, m < n ∧ Weak n0 e'' H'' e3 H3 ∧ I m e3 H3 | x => Q x e'' H'') e' H'
  | .region _ ops false, Q, e, H => opsW P G ops ops.toList (Q .normal) e H
  | .region _ ops true, Q, e, H => trW P G ops ops.toList [] (fun cs e H => drawOk ops cs = true ∧ Q .normal e H) e H
  | .rangeFunc g ps assign body, Q, e, H => ∃ (f : FuncId) (caps : List AV) (vals : List (Nat × AV)), ev G e g = .clo f caps ∧ At vals e ∧ (∀ p ∈ vals, p.1 ≠ dSlot) ∧ dfrs (e dSlot) = [] ∧
      ∀ D, ∃ r H', Fn P G f (.yld (H.length + 1) :: caps) (H ++ [.dfrAt D, .loop .ready vals ps.toList assign body]) r H' ∧
        ((H'[H.length + 1]? = some (.loop .ready vals ps.toList assign body) ∧ Q .normal (upd e dSlot (.dfr [D])) (H'.set (H.length + 1) .dead)) ∨
         (H'[H.length + 1]? = some (.loop (.done .ret) vals ps.toList assign body) ∧ Q .ret (upd e dSlot (.dfr [D])) (H'.set (H.length + 1) .dead)) ∨
         ∃ id, H'[H.length + 1]? = some (.loop (.done (.exit id)) vals ps.toList assign body) ∧ Q (.exit id) (upd e dSlot (.dfr [D])) (H'.set (H.length + 1) .dead))
  | _, _, _, _ => False

/-- No range over a function. -/
def noRange : Code → Bool
  | .seq a b => noRange a && noRange b
  | .cond _ a b => noRange a && noRange b
  | .block _ a => noRange a
  | .loop a => noRange a
  | .rangeFunc .. => false
  | _ => true

/-! What a frame is -/
structure REnv (q : Bool) (K : Mem) (ι : Nat → Pl) (n nt : Nat) (e : Env) (a : Act) : Prop where
  defers : a.defers = dfrs (e dSlot)
  plain : q = true → a.defers = []
  room : nt ≤ dSlot
  size : a.tmps.size = nt
  rel : ∀ t, RelA K ι n (e t) (a.tmps.getD t undef)

def Holds (X : Cxt) (G : Gl) (q : Bool) (nt : Nat) (Q : Exit → Env → List HO → Prop) : Exit → Act → World → Prop :=
  fun x a w => ∃ e H K ι, Q x e H ∧ SR X K ι H w ∧ GOk K G ∧ REnv q K ι H.length nt e a

def AWP (P : Program) (G : Gl) (q : Bool) (ro : Option Nat) (nt n0 : Nat) (c : Code) (Q : Exit → Env → List HO → Prop) (e : Env) (H : List HO) : Prop :=
  ∀ X K ι a w, X.n0 = n0 → SR X K ι H w → GOk K G → REnv q K ι H.length nt e a → Code.wpIn (FR ro) 0 P c (Holds X G q nt Q) a w

section
variable {P : Program} {X : Cxt} {K K' : Mem} {ι ι' : Nat → Pl} {n nt n0 : Nat} {H : List HO} {w w' : World} {G : Gl} {q : Bool} {ro : Option Nat}

theorem getD_set_tmp (a : Array Value) (d t : Nat) (v : Value) (hd : d < a.size) : (a.setIfInBounds d v).getD t undef = if t = d then v else a.getD t undef := by
  simp only [Array.getD_eq_getD_getElem?, Array.getElem?_setIfInBounds]
  by_cases h : d = t
  · subst h; simp [hd]
  · rw [if_neg h, if_neg (fun e => h e.symm)]

theorem REnv.mono {e : Env} {a : Act} {n' : Nat} (h : REnv q K ι n nt e a) (hK : Mem.le K K') (hn : n ≤ n') (hι : Pls.le n ι ι') : REnv q K' ι' n' nt e a :=
  ⟨h.defers, h.plain, h.room, h.size, fun t => (h.rel t).mono hK hn hι⟩

theorem REnv.put {e : Env} {a : Act} {d : Option Tmp} {r : AV} {v : Value} (h : REnv q K ι n nt e a) (hd : ∀ t, d = some t → t < nt) (hr : RelA K ι n r v) : REnv q K ι n nt (updO e d r) (a.put d v) := by
  cases d with
  | none => exact h
  | some d =>
    have hlt := hd d rfl
    have hroom := h.room
    have hne : dSlot ≠ d := fun hc => by subst hc; exact absurd hroom (Nat.not_le.2 hlt)
    refine ⟨by simpa [updO, upd, hne, Act.put] using h.defers, h.plain, hroom, by simpa [Act.put] using h.size, fun t => ?_⟩
    simp only [updO, upd, Act.put]
    rw [getD_set_tmp _ _ _ _ (by rw [h.size]; exact hlt)]
    split
    · exact hr
    · exact h.rel t

/-- A step of the machine that hands a value to a slot. -/
theorem oper_of_next {o : Oper} {a : Act} {nx : Next} {v : Value} {K1 : Act → World → Prop} {Q : Exit → Act → World → Prop} (h : (execOp a.eval o).run P w = .ok nx w') (hv : nextV nx = some v) (hk : K1 (a.put o.dst v) w') :
    o.wpIn (FR ro) 0 P a w K1 Q := by
  unfold Oper.wpIn
  have hnd : ∀ c, o.op ≠ .defer c := fun c hc => by
    unfold execOp at h
    rw [hc] at h
    simp only [Sem.run_bind, Sem.run_pure] at h
    generalize (resolve a.eval c o.type).run P w = x at h
    cases x with
    | ok d w1 =>
      simp only [Result.andThen, Result.ok.injEq] at h
      obtain ⟨rfl, _⟩ := h
      simp [nextV] at hv
    | halt s w1 => simp [Result.andThen] at h
  refine ⟨fun _ _ => trivial, ?_⟩
  rw [Oper.semAt_eq _ _ _ hnd, h]
  cases nx <;> simp only [nextV, Option.some.injEq] at hv <;> first | contradiction | (subst hv; exact hk)

theorem norm_args {ρ : Operand → Value} {e : Env} (hρ : ∀ x, RelA K ι n (ev G e x) (ρ x)) (args : Array Operand) :
    (args.map ρ).size = (normAL (args.toList.map (ev G e))).length ∧ ∀ i, i < (normAL (args.toList.map (ev G e))).length → RelA K ι n ((normAL (args.toList.map (ev G e))).getD i .junk) ((args.map ρ).getD i undef) := by
  refine ⟨by rw [normAL_length]; simp, fun i hi => ?_⟩
  rw [normAL_length] at hi
  have hi' : i < args.size := by simpa using hi
  rw [normAL_get _ _ hi]
  have e1 : (args.toList.map (ev G e)).getD i .junk = ev G e args[i] := by simp [List.getD_eq_getElem?_getD, hi']
  have e2 : (args.map ρ).getD i undef = ρ args[i] := by simp [Array.getD, hi']
  rw [e1, e2]
  exact (hρ _).norm

/-- A call. -/
theorem call_sound {e : Env} {o : Oper} {a : Act} {f : Operand} {args : Array Operand} {ts : Array TypeId} (hop : o.op = .call ⟨.value f, args, ts⟩) {fv : AV} (hfv : ev G e f = fv) {F : FuncId} {caps : List AV}
    (hF : (fv = .d (.func F) ∧ caps = []) ∨ fv = .clo F caps) {r : AV} {H' : List HO} (hfn : Fn P G F (normAL (args.toList.map (ev G e)) ++ caps) H r H') (hsr : SR X K ι H w) (hG : GOk K G)
    (hρ : ∀ x, RelA K ι H.length (ev G e x) (a.eval x)) {K1 : Act → World → Prop} {Q : Exit → Act → World → Prop} (hk : ∀ v w', Left X K ι H.length H' r v w' → K1 (a.put o.dst v) w') : o.wpIn (FR ro) 0 P a w K1 Q := by
  obtain ⟨hok, hcall⟩ := hfn
  obtain ⟨n1, n2⟩ := norm_args hρ args
  have hfr := hρ f
  rw [hfv] at hfr
  have : ∃ cv : Array Value, a.eval f = .func (.func F) #[] cv ∧ cv.size = caps.length ∧ ∀ i, i < caps.length → RelA K ι H.length (caps.getD i .junk) (cv.getD i undef) := by
    rcases hF with ⟨rfl, rfl⟩ | rfl
    · have hg := hfr.get
      generalize hv : a.eval f = v at hg
      cases hg
      exact ⟨#[], rfl, rfl, fun i hi => by simp at hi⟩
    · generalize hv : a.eval f = v at hfr
      cases hfr with
      | clo _ _ vs hl hr => exact ⟨vs, rfl, hl, hr⟩
  obtain ⟨cv, hcv, hcl, hcr⟩ := this
  have hrun : (execOp a.eval o).run P w = .ok (.enter F (args.map a.eval ++ cv)) w := by
    unfold execOp
    rw [hop]
    simp only [resolve, Sem.run_bind, hcv, Deferred.ofValue, Sem.run_pure, Result.andThen_ok, invoke, run_callFunc_enter hok]
    congr 2
    simp
  unfold Oper.wpIn
  refine ⟨fun _ _ => trivial, ?_⟩
  rw [Oper.semAt_eq _ _ _ (by rw [hop]; simp), hrun]
  refine ⟨fun h => by simp at h, show CallsIn Fence.wide (0 - 1) P _ _ _ _ from callsIn_wide.2 ?_⟩
  refine (hcall X K ι w (args.map a.eval ++ cv) hsr hG (by simp [n1, hcl]) fun i hi => ?_).mono ?_
  · rw [Array.getD_eq_getD_getElem?, List.getD_eq_getElem?_getD, List.getElem?_append]
    by_cases hc : i < (normAL (args.toList.map (ev G e))).length
    · rw [if_pos hc, Array.getElem?_append_left (by rw [n1]; exact hc)]
      have := n2 i hc
      rwa [Array.getD_eq_getD_getElem?, List.getD_eq_getElem?_getD] at this
    · rw [if_neg hc, Array.getElem?_append_right (by rw [n1]; omega), n1]
      have := hcr (i - (normAL (args.toList.map (ev G e))).length) (by simp at hi; omega)
      rwa [Array.getD_eq_getD_getElem?, List.getD_eq_getElem?_getD] at this
  · rintro en w' ⟨v, rfl, hl⟩
    exact hk v w' hl

/-- A call of yield. -/
theorem yield_sound {e : Env} {o : Oper} {a : Act} {f : Operand} {args : Array Operand} {ts : Array TypeId} (hop : o.op = .call ⟨.value f, args, ts⟩) {id : Nat} (hfv : ev G e f = .yld id)
    {r : AV} {H' : List HO} (hfn : YFn P G id (normAL (args.toList.map (ev G e))) H r H') (hsr : SR X K ι H w) (hG : GOk K G)
    (hρ : ∀ x, RelA K ι H.length (ev G e x) (a.eval x)) {K1 : Act → World → Prop} {Q : Exit → Act → World → Prop} (hk : ∀ v w', Left X K ι H.length H' r v w' → K1 (a.put o.dst v) w') : o.wpIn (FR ro) 0 P a w K1 Q := by
  obtain ⟨_, hcall⟩ := hfn
  obtain ⟨n1, n2⟩ := norm_args hρ args
  have hfr := hρ f
  rw [hfv] at hfr
  generalize hv : a.eval f = v at hfr
  cases hfr with
  | yld _ hid =>
    obtain ⟨fn, tmps, assign, body, hy, hround⟩ := hcall X K ι w (args.map a.eval) hsr hG n1 n2
    have hrun : (execOp a.eval o).run P w = .ok (.round (ι id).block fn tmps assign body) w := by
      unfold execOp
      rw [hop]
      simp only [resolve, Sem.run_bind, hv, Deferred.ofValue, Sem.run_pure, Result.andThen_ok, invoke]
      simpa using hy
    unfold Oper.wpIn
    refine ⟨fun _ _ => trivial, ?_⟩
    rw [Oper.semAt_eq _ _ _ (by rw [hop]; simp), hrun]
    refine ⟨fun h => by simp at h, show RoundIn Fence.wide (0 - 1) P _ _ _ _ _ _ _ from hround.mono ?_⟩
    rintro en w' ⟨v, rfl, hl⟩
    exact hk v w' hl

theorem yielded_of {ops : Array Oper} {e : Env} {a : Act} {b : Bool} {o : Oper} (he : REnv q K ι n nt e a) (hw : wantA ops e o.guard = some b) (hd : ∀ (j : Nat) (o' : Oper) (t : Tmp), ops[j]? = some o' → o'.dst = some t → t < nt) :
    Region.wanted o (yielded ops a.tmps) = b := by
  unfold wantA at hw
  unfold Region.wanted
  split at hw
  · rename_i hg
    simp only [Option.some.injEq] at hw; subst hw
    rw [hg]
  · rename_i j want hg
    rw [hg]
    simp only
    split at hw
    · rename_i t ht
      have htn : t < nt := by
        unfold dstOf at ht
        cases hj : ops[j]? with
        | none => rw [hj] at ht; simp at ht
        | some o' => rw [hj] at ht; exact hd j o' t hj ht
      have hrel := he.rel t
      have hv : a.tmps[t]? = some (a.tmps.getD t undef) := by simp [Array.getD, he.size, htn]
      have hy : yielded ops a.tmps j = match a.tmps.getD t undef with | .bool b => some b | _ => none := by
        unfold yielded
        unfold dstOf at ht
        rw [ht]
        simp only [Option.bind_some]
        rw [hv]
        cases a.tmps.getD t undef <;> rfl
      unfold wantV at hw
      split at hw
      · rename_i c hc
        simp only [Option.some.injEq] at hw; subst hw
        rw [hc] at hrel
        have hg := hrel.get
        generalize a.tmps.getD t undef = u at hg hy
        cases hg
        rw [hy]
        cases c <;> cases want <;> rfl
      · rename_i c hc
        simp only [Option.some.injEq] at hw; subst hw
        rw [hc] at hrel
        have hg := hrel.get
        generalize a.tmps.getD t undef = u at hg hy
        cases hg
        rw [hy]
        rfl
      · contradiction
    · contradiction

/-- One step, whatever it is. -/
theorem stepW_sound {e : Env} {o : Oper} {a : Act} {Q : AV → List HO → Prop} (h : stepW P G o.op e H Q) (hsr : SR X K ι H w) (hG : GOk K G) (he : REnv q K ι H.length nt e a)
    {K1 : Act → World → Prop} {Q1 : Exit → Act → World → Prop} (hk : ∀ r H' v w', Q r H' → Left X K ι H.length H' r v w' → K1 (a.put o.dst v) w') : o.wpIn (FR ro) 0 P a w K1 Q1 := by
  have hρ := ev_rel (G := G) hG he.rel
  unfold stepW at h
  split at h
  · rename_i r hp
    obtain ⟨v, hrun, hr⟩ := pst_sound (P := P) hp hρ hsr.agree
    exact oper_of_next hrun rfl (hk r H v w h (Left.of_eq hsr hr))
  · split at h
    · rename_i r H' hh
      obtain ⟨nx, v, w', hrun, hv, hl⟩ := hst_sound (P := P) hh hsr hρ
      exact oper_of_next hrun hv (hk r H' v w' h hl)
    · unfold opCall at h
      split at h
      · rename_i f args ts hop
        unfold callW at h
        split at h
        · rename_i F hF
          obtain ⟨r, H', hfn, hq⟩ := h
          exact call_sound hop hF (.inl ⟨rfl, rfl⟩) (by simpa using hfn) hsr hG hρ (fun v w' hl => hk r H' v w' hq hl)
        · rename_i F caps hF
          obtain ⟨r, H', hfn, hq⟩ := h
          exact call_sound hop hF (.inr rfl) hfn hsr hG hρ (fun v w' hl => hk r H' v w' hq hl)
        · rename_i id hF
          obtain ⟨r, H', hfn, hq⟩ := h
          exact yield_sound hop hF hfn hsr hG hρ (fun v w' hl => hk r H' v w' hq hl)
        · contradiction
      · contradiction

theorem opsW_sound (ops : Array Oper) (hd : ∀ (j : Nat) (o' : Oper) (t : Tmp), ops[j]? = some o' → o'.dst = some t → t < nt) : ∀ (l : List Oper) (k : Nat) (Q : Env → List HO → Prop) (e : Env) (H : List HO) (K : Mem) (ι : Nat → Pl) (a : Act) (w : World),
    l = ops.toList.drop k → opsW P G ops l Q e H → SR X K ι H w → GOk K G → REnv q K ι H.length nt e a →
    ∀ Q1 : Exit → Act → World → Prop, (∀ e H K ι a w, Q e H → SR X K ι H w → GOk K G → REnv q K ι H.length nt e a → Q1 .normal a w) → wpOpsIn (FR ro) 0 P ops Q1 (List.range' k l.length) a w
  | [], k, Q, e, H, K, ι, a, w, hl, h, hsr, hG, he, Q1, hq => hq e H K ι a w h hsr hG he
  | o :: os, k, Q, e, H, K, ι, a, w, hl, h, hsr, hG, he, Q1, hq => by
    have hko : ops[k]? = some o := by
      have : ops.toList[k]? = some o := by
        have := congrArg (fun l : List Oper => l[0]?) hl
        simp at this
        simpa using this.symm
      simpa using this
    have hos : os = ops.toList.drop (k + 1) := by
      have := congrArg List.tail hl
      simpa using this
    have hdo : ∀ t, o.dst = some t → t < nt := fun t ht => hd k o t hko ht
    simp only [List.length_cons, List.range'_succ]
    rw [wpOpsIn]
    simp only [hko]
    simp only [opsW] at h
    cases hwa : wantA ops e o.guard with
    | none => rw [hwa] at h; exact h.elim
    | some b =>
      have hw := yielded_of (o := o) he hwa hd
      rw [hw]
      cases b with
      | true =>
        rw [hwa] at h
        simp only [gW] at h
        simp only [if_true]
        refine stepW_sound h hsr hG he ?_
        rintro r H' v w' hrest ⟨K', ι', s1, s2, s3, s4, s5⟩
        exact opsW_sound ops hd os (k + 1) Q _ H' K' ι' _ w' hos hrest s1 (hG.mono s3) ((he.mono s3 s5 s4).put hdo s2) Q1 hq
      | false =>
        rw [hwa] at h
        simp only [gW] at h
        simp only [Bool.false_eq_true, if_false]
        refine ⟨fun _ _ => trivial, ?_⟩
        exact opsW_sound ops hd os (k + 1) Q _ H K ι _ w hos h hsr hG (he.put hdo (.d _ _ (.tup _ _ rfl (fun i hi => by simp at hi)))) Q1 hq

end
end Go.Proofs.YtjmldlknegbimaaGreatDoor.Sx

/- A region whose order is open comes to the same in every order. Own library, part 12. -/
set_option linter.unusedVariables false
set_option linter.unusedSimpArgs false
namespace Go.Proofs.YtjmldlknegbimaaGreatDoor.Sx
open Go Go.RowKit

/-- What one executed operation of the reference run did. -/
inductive Did (P : Program) (G : Gl) (op : Op) (e : Env) (H : List HO) : Cls → AV → List HO → Prop
  | pst (r : AV) (h : pst P G e op = some r) : Did P G op e H .pure r H
  | hst (r : AV) (H' : List HO) (h0 : Sx.pst P G e op = none) (h : hst P G e H op = some (r, H')) : Did P G op e H (hcls G e H op r) r H'
  | callP (f : Operand) (args : Array Operand) (ts : Array TypeId) (hop : op = .call ⟨.value f, args, ts⟩) (F : FuncId) (hf : ev G e f = .d (.func F)) (ds : List DV) (hds : allD (normAL (args.toList.map (ev G e))) = some ds) (r : DV)
      (h : PF P G F ds r) : Did P G op e H .pure (.d r) H
  | callW (f : Operand) (args : Array Operand) (ts : Array TypeId) (hop : op = .call ⟨.value f, args, ts⟩) (F : FuncId) (caps : List AV) (hf : (ev G e f = .d (.func F) ∧ caps = []) ∨ ev G e f = .clo F caps) (r : AV) (H' : List HO)
      (h : Fn P G F (normAL (args.toList.map (ev G e)) ++ caps) H r H') (c : Cls) (hc : ClsCall c H H') : Did P G op e H c r H'

section
variable {P : Program} {G : Gl}

theorem stepT_did {op : Op} {e : Env} {H : List HO} {Q : Cls → AV → List HO → Prop} (h : stepT P G op e H Q) : ∃ c r H', Did P G op e H c r H' ∧ Q c r H' := by
  unfold stepT at h
  split at h
  · rename_i r hp
    exact ⟨_, _, _, .pst r hp, h⟩
  · rename_i hp
    split at h
    · rename_i r H' hh
      exact ⟨_, _, _, .hst r H' hp hh, h⟩
    · cases op with
      | call c =>
        obtain ⟨callee, args, ts⟩ := c
        cases callee with
        | value f =>
          simp only [opCallT, callT] at h
          split at h
          · rename_i F ds hf hds
            obtain ⟨r, hr, hq⟩ := h
            exact ⟨_, _, _, .callP f args ts rfl F hf ds hds r hr, hq⟩
          · rename_i F hf hds
            obtain ⟨r, H', c, hr, hc, hq⟩ := h
            exact ⟨_, _, _, .callW f args ts rfl F [] (.inl ⟨hf, rfl⟩) r H' (by simpa using hr) c hc, hq⟩
          · rename_i F caps hf
            obtain ⟨r, H', c, hr, hc, hq⟩ := h
            exact ⟨_, _, _, .callW f args ts rfl F caps (.inr hf) r H' hr c hc, hq⟩
          · contradiction
        | _ => simp only [opCallT] at h
      | _ => simp only [opCallT] at h

/-- The reference run. -/
def Ran (P : Program) (G : Gl) (ops : Array Oper) (env : Nat → Env) (Hs : Nat → List HO) (val : Nat → AV) (cl : Nat → Cls) (i : Nat) : Prop :=
  ∃ o, ops[i]? = some o ∧ env (i + 1) = updO (env i) o.dst (val i) ∧
    ((wantA ops (env i) o.guard = some false ∧ val i = .d (.tup []) ∧ Hs (i + 1) = Hs i ∧ cl i = .pure) ∨
     (wantA ops (env i) o.guard = some true ∧ Did P G o.op (env i) (Hs i) (cl i) (val i) (Hs (i + 1))))

theorem trW_ran (ops : Array Oper) (Q : List Cls → Env → List HO → Prop) : ∀ (l : List Oper) (k : Nat) (cs : List Cls) (e : Env) (H : List HO), l = ops.toList.drop k → k + l.length = ops.size → trW P G ops l cs Q e H →
    ∃ (env : Nat → Env) (Hs : Nat → List HO) (val : Nat → AV) (cl : Nat → Cls), env k = e ∧ Hs k = H ∧ (∀ i, k ≤ i → i < ops.size → Ran P G ops env Hs val cl i) ∧ Q (cs ++ (List.range' k l.length).map cl) (env ops.size) (Hs ops.size)
  | [], k, cs, e, H, hl, hk, h => by
    simp only [List.length_nil, Nat.add_zero] at hk
    refine ⟨fun _ => e, fun _ => H, fun _ => .junk, fun _ => .pure, rfl, rfl, fun i h1 h2 => by omega, ?_⟩
    simpa [trW] using h
  | o :: os, k, cs, e, H, hl, hk, h => by
    have hko : ops[k]? = some o := by
      have : ops.toList[k]? = some o := by
        have := congrArg (fun l : List Oper => l[0]?) hl
        simp at this
        simpa using this.symm
      simpa using this
    have hos : os = ops.toList.drop (k + 1) := by
      have := congrArg List.tail hl
      simpa using this
    simp only [List.length_cons] at hk
    have fin : ∀ (v : AV) (c : Cls) (H' : List HO), ((wantA ops e o.guard = some false ∧ v = .d (.tup []) ∧ H' = H ∧ c = .pure) ∨ (wantA ops e o.guard = some true ∧ Did P G o.op e H c v H')) →
        trW P G ops os (cs ++ [c]) Q (updO e o.dst v) H' →
        ∃ (env : Nat → Env) (Hs : Nat → List HO) (val : Nat → AV) (cl : Nat → Cls), env k = e ∧ Hs k = H ∧ (∀ i, k ≤ i → i < ops.size → Ran P G ops env Hs val cl i) ∧ Q (cs ++ (List.range' k (o :: os).length).map cl) (env ops.size) (Hs ops.size) := by
      intro v c H' hdid hrest
      obtain ⟨env, Hs, val, cl, h1, h2, h3, h4⟩ := trW_ran ops Q os (k + 1) (cs ++ [c]) _ _ hos (by omega) hrest
      refine ⟨fun i => if i = k then e else env i, fun i => if i = k then H else Hs i, fun i => if i = k then v else val i, fun i => if i = k then c else cl i, by simp, by simp, ?_, ?_⟩
      · intro i hi1 hi2
        by_cases hc : i = k
        · subst hc
          refine ⟨o, hko, ?_, ?_⟩
          · simp [h1]
          · simp only [if_true]
            rw [if_neg (by omega), h2]
            exact hdid
        · obtain ⟨o', g1, g2, g3⟩ := h3 i (by omega) hi2
          refine ⟨o', g1, ?_, ?_⟩
          · simp only [if_neg hc]; rw [if_neg (by omega)]; exact g2
          · simp only [if_neg hc]; rw [if_neg (by omega)]; exact g3
      · have e1 : (List.range' k (o :: os).length).map (fun i => if i = k then c else cl i) = c :: (List.range' (k + 1) os.length).map cl := by
          simp only [List.length_cons, List.range'_succ, List.map_cons, if_true]
          congr 1
          apply List.map_congr_left
          intro i hi
          have := List.mem_range'_1.1 hi
          rw [if_neg (by omega)]
        rw [e1]
        simp only []
        rw [if_neg (by omega), if_neg (by omega)]
        simpa using h4
    simp only [trW] at h
    cases hwa : wantA ops e o.guard with
    | none => rw [hwa] at h; exact h.elim
    | some b =>
      rw [hwa] at h
      cases b with
      | true =>
        simp only [gW] at h
        obtain ⟨c, r, H', hd, hr⟩ := stepT_did h
        exact fin r c H' (.inr ⟨hwa, hd⟩) hr
      | false =>
        simp only [gW] at h
        exact fin _ .pure H (.inl ⟨hwa, rfl, rfl, rfl⟩) h

/-! Congruence: only the slots that are read count -/
theorem ev_congr {e e' : Env} {x : Operand} (h : ∀ t, x = .tmp t → e t = e' t) : ev G e x = ev G e' x := by
  cases x with
  | tmp t => exact h t rfl
  | _ => rfl

theorem pst_congr {e e' : Env} {op : Op} (h : ∀ x ∈ op.operands, ev G e x = ev G e' x) : pst P G e op = pst P G e' op := by
  cases op <;> simp only [Op.operands] at h <;> simp only [pst]
  case move x => rw [h x (by simp)]
  case assign x => rw [h x (by simp)]
  case pick c a b => rw [h c (by simp), h a (by simp), h b (by simp)]
  case nilCheck x => rw [h x (by simp)]
  case binOp op t x y yt => rw [h x (by simp), h y (by simp)]
  case unOp op t x => rw [h x (by simp)]
  case convert s d x => rw [h x (by simp)]
  case fieldAddr t x f => rw [h x (by simp)]
  case field t x f => rw [h x (by simp)]
  case indexAddr t x i => rw [h x (by simp), h i (by simp)]
  case index t x i => rw [h x (by simp), h i (by simp)]
  case load t x => rw [h x (by simp)]
  case slice t x lo hi mx =>
    rw [h x (by simp)]
    have e1 : lo.map (ev G e) = lo.map (ev G e') := by cases lo with | none => rfl | some y => simp [h y (by simp)]
    have e2 : hi.map (ev G e) = hi.map (ev G e') := by cases hi with | none => rfl | some y => simp [h y (by simp)]
    have e3 : mx.map (ev G e) = mx.map (ev G e') := by cases mx with | none => rfl | some y => simp [h y (by simp)]
    rw [e1, e2, e3]
  case extract x i => rw [h x (by simp)]
  case makeFunc fn first caps =>
    rw [List.map_congr_left fun x hx => h x (by simp [Array.mem_toList_iff.1 hx]), List.map_congr_left (l := caps.toList) fun x hx => h x (by simp [Array.mem_toList_iff.1 hx])]
  case build t parts =>
    rw [List.map_congr_left fun p hp => by rw [h p.2 (by simp; exact ⟨p.1, Array.mem_toList_iff.1 hp⟩)]]
  case makeInterface t x => rw [h x (by simp)]
  case call c =>
    obtain ⟨callee, args, ts⟩ := c
    cases callee with
    | value f => rfl
    | invoke r m => rfl
    | builtin b =>
      simp only [Call.operands] at h
      obtain ⟨args⟩ := args
      obtain ⟨ts⟩ := ts
      cases b <;> (try rfl)
      · -- len
        rcases args with _ | ⟨x, _ | ⟨y, r⟩⟩ <;> rcases ts with _ | ⟨t, _ | ⟨t', r'⟩⟩ <;> first | rfl | (simp only [pst]; rw [h x (by simp)])
      · rcases args with _ | ⟨x, _ | ⟨y, _ | ⟨z, r⟩⟩⟩ <;> first | rfl | (simp only [pst]; rw [h x (by simp), h y (by simp)])
      · rcases args with _ | ⟨x, _ | ⟨y, _ | ⟨z, r⟩⟩⟩ <;> first | rfl | (simp only [pst]; rw [h x (by simp), h y (by simp)])

theorem hst_congr {e e' : Env} {H : List HO} {op : Op} (h : ∀ x ∈ op.operands, ev G e x = ev G e' x) : hst P G e H op = hst P G e' H op := by
  cases op <;> simp only [Op.operands] at h <;> simp only [hst]
  case box t x => rw [h x (by simp)]
  case load t x => rw [h x (by simp)]
  case store t x y => rw [h x (by simp), h y (by simp)]
  case makeSlice t l c => rw [h l (by simp), h c (by simp)]
  case makeMap t r => cases r <;> rfl
  case lookup t x k ok => rw [h x (by simp), h k (by simp)]
  case mapUpdate t m k v => rw [h m (by simp), h k (by simp), h v (by simp)]
  case buildSlice t len parts =>
    rw [List.map_congr_left fun p hp => by rw [h p.2 (by simp; exact ⟨p.1, Array.mem_toList_iff.1 hp⟩)]]
  case convert s d x => rw [h x (by simp)]
  case call c =>
    obtain ⟨callee, args, ts⟩ := c
    cases callee with
    | value f => rfl
    | invoke r m => rfl
    | builtin b =>
      simp only [Call.operands] at h
      obtain ⟨args⟩ := args
      obtain ⟨ts⟩ := ts
      cases b <;> (try rfl)
      rcases args with _ | ⟨x, _ | ⟨y, _ | ⟨z, r⟩⟩⟩ <;> rcases ts with _ | ⟨t, _ | ⟨t', _ | ⟨t'', r'⟩⟩⟩ <;> first | rfl | (simp only [hst]; rw [h x (by simp), h y (by simp)])

theorem push_get {H : List HO} {o : HO} {j : Nat} (h : j ≠ H.length) : (H ++ [o])[j]? = H[j]? := by
  rcases Nat.lt_or_gt_of_ne h with h | h
  · rw [List.getElem?_append_left h]
  · rw [List.getElem?_eq_none (by simp; omega), List.getElem?_eq_none (by omega)]

theorem set_get {H : List HO} {o : HO} {i j : Nat} (h : j ≠ i) : (H.set i o)[j]? = H[j]? := by
  rw [List.getElem?_set_ne (Ne.symm h)]

/-- What the class of a step says. -/
def ClsSays (P : Program) (G : Gl) (e : Env) (H : List HO) (op : Op) (r : AV) (H' : List HO) : Cls → Prop
  | .pure => False
  | .write => True
  | .read => H' = H
  | .fresh => H' = H ∧ ∀ H1, hst P G e H1 op = some (r, H1)
  | .rdo id => H' = H ∧ ∀ H1 : List HO, H1[id]? = H[id]? → hst P G e H1 op = some (r, H1)
  | .wro id => ∀ j, j ≠ id → H'[j]? = H[j]?

theorem apB_says {H H' : List HO} {z by_ : Nat} {s r : AV} {new : List (List DV)} (h : apB H z by_ s new = some (r, H')) (e : Env) (op : Op) : ClsSays P G e H op r H' (apC s H.length) := by
  unfold apB at h
  split at h
  · split at h
    · simp only [Option.some.injEq, Prod.mk.injEq] at h
      obtain ⟨rfl, rfl⟩ := h
      exact fun j hj => push_get hj
    · contradiction
  · split at h
    · split at h
      · simp only [Option.some.injEq, Prod.mk.injEq] at h
        obtain ⟨rfl, rfl⟩ := h
        exact fun j hj => set_get hj
      · contradiction
    · contradiction
  · contradiction

theorem stA_other {H H' : List HO} {id off : Nat} {vc : List AV} (h : stA H id off vc = some H') : ∀ j, j ≠ id → H'[j]? = H[j]? := by
  unfold stA at h
  split at h
  · split at h
    · simp only [Option.some.injEq] at h; subst h
      exact fun j hj => set_get hj
    · contradiction
  · contradiction

theorem hst_says {e : Env} {H H' : List HO} {op : Op} {r : AV} (h : hst P G e H op = some (r, H')) : ClsSays P G e H op r H' (hcls G e H op r) := by
  cases op
  case alloc t =>
    simp only [hst] at h
    split at h
    · simp only [Option.some.injEq, Prod.mk.injEq] at h
      obtain ⟨rfl, rfl⟩ := h
      exact fun j hj => push_get hj
    · contradiction
  case box t x =>
    simp only [hst] at h
    split at h
    · simp only [Option.some.injEq, Prod.mk.injEq] at h
      obtain ⟨rfl, rfl⟩ := h
      exact fun j hj => push_get hj
    · contradiction
  case load t x =>
    simp only [hst, hcls, ldB] at h ⊢
    split at h
    · rename_i id off hx
      rw [hx]
      split at h
      · rename_i cs hid
        split at h
        · rename_i y hy
          simp only [Option.some.injEq, Prod.mk.injEq] at h
          obtain ⟨rfl, rfl⟩ := h
          refine ⟨rfl, fun H1 h1 => ?_⟩
          simp only [hst, ldB, hx, h1, hid, hy]
        · contradiction
      · contradiction
    · contradiction
  case store t x y =>
    simp only [hst, hcls, stB] at h ⊢
    split at h
    · rename_i id off vc hx hvc
      rw [hx]
      split at h
      · split at h
        · rename_i H2 hs
          simp only [Option.some.injEq, Prod.mk.injEq] at h
          obtain ⟨rfl, rfl⟩ := h
          exact stA_other hs
        · contradiction
      · contradiction
    · contradiction
  case convert s d x =>
    simp only [hst, cvH] at h
    simp only [hcls, ClsSays]
    split at h
    · split at h
      · split at h
        · split at h
          · split at h
            · simp only [Option.some.injEq, Prod.mk.injEq] at h; exact h.2.symm
            · contradiction
          · contradiction
        · contradiction
      · contradiction
    · split at h
      · simp only [Option.some.injEq, Prod.mk.injEq] at h; exact h.2.symm
      · contradiction
    · contradiction
  case lookup t x k ok =>
    simp only [hst, hcls, luA] at h ⊢
    split at h
    · rename_i kt et id s htm hx hk
      rw [hx]
      split at h
      · rename_i z es h1 h2 h3
        simp only [Option.some.injEq, Prod.mk.injEq] at h
        obtain ⟨rfl, rfl⟩ := h
        refine ⟨rfl, fun H1 hh => ?_⟩
        simp only [hst, luA, htm, hx, hk, h1, h2, hh, h3]
      · contradiction
    · contradiction
  case buildSlice t len parts =>
    simp only [hst] at h
    simp only [hcls]
    split
    · rename_i x
      have key : H' = H ∧ ∀ H1, bsA P H1 t len (parts.toList.map fun p => (p.1, ev G e p.2)) = some (.d x, H1) := by
        unfold bsA at h ⊢
        cases h1 : tk P t with
        | none => simp [h1] at h
        | some k => cases k with
          | slice e' =>
            simp only [h1] at h ⊢
            cases h2 : tsz P e' with
            | none => simp [h2] at h
            | some s => cases h3 : tz P e' with
              | none => simp [h2, h3] at h
              | some zv =>
                simp only [h2, h3] at h ⊢
                by_cases hc : len * s ≤ 16777216 ∧ zv.cells.size = s
                · simp only [if_pos hc] at h ⊢
                  cases h4 : fillA (fun i => some (i * s, s)) (zerosA len (ofVL zv.cells.toList)) (parts.toList.map fun p => (p.1, ev G e p.2)) with
                  | none => simp [h4] at h
                  | some cs =>
                    simp only [h4] at h ⊢
                    cases h5 : allD cs with
                    | none => simp [h5] at h
                    | some ds =>
                      simp only [h5, Option.some.injEq, Prod.mk.injEq] at h ⊢
                      exact ⟨h.2.symm, fun H1 => ⟨h.1, trivial⟩⟩
                · simp [if_neg hc] at h
          | _ => simp [h1] at h
      exact ⟨key.1, fun H1 => by simp only [hst]; exact key.2 H1⟩
    · trivial
  case call c =>
    obtain ⟨callee, args, ts⟩ := c
    cases callee with
    | value f => trivial
    | invoke r m => trivial
    | builtin b =>
      obtain ⟨args⟩ := args
      obtain ⟨ts⟩ := ts
      cases b
      case append =>
        rcases args with _ | ⟨s, _ | ⟨x, _ | ⟨z, r'⟩⟩⟩
        · trivial
        · trivial
        · simp only [hcls]
          rcases ts with _ | ⟨tS, _ | ⟨tX, _ | ⟨t'', r'⟩⟩⟩
          · simp [hst] at h
          · simp [hst] at h
          · simp only [hst, apA] at h
            split at h
            · split at h
              · split at h
                · split at h
                  · split at h
                    · exact apB_says h e _
                    · contradiction
                  · contradiction
                · contradiction
              · contradiction
            · contradiction
          · simp [hst] at h
        · trivial
      all_goals trivial
  all_goals trivial

/-! What must come first -/
def ClosedL (ops : List Oper) (L : Nat → Prop) : Prop := ∀ (i : Nat) (o : Oper), ops[i]? = some o → L i → ∀ e ∈ o.after.toList, Region.binds .any e = true → L e.on

theorem fold_bits (acc : List Nat) (j : Nat) : ∀ (l : List Edge) (s : Nat), (l.foldl (fun s e => if Region.binds .any e then s ||| 2 ^ e.on ||| acc.getD e.on 0 else s) s).testBit j = true →
    s.testBit j = true ∨ ∃ e ∈ l, Region.binds .any e = true ∧ (e.on = j ∨ (acc.getD e.on 0).testBit j = true)
  | [], s, h => .inl h
  | e :: l, s, h => by
    simp only [List.foldl_cons] at h
    rcases fold_bits acc j l _ h with h | ⟨e', he', hb, hj⟩
    · split at h
      · rename_i hb
        simp only [Nat.testBit_or, Bool.or_eq_true, Nat.testBit_two_pow, decide_eq_true_eq] at h
        rcases h with (h | h) | h
        · exact .inl h
        · exact .inr ⟨e, by simp, hb, .inl h⟩
        · exact .inr ⟨e, by simp, hb, .inr h⟩
      · exact .inl h
    · exact .inr ⟨e', by simp [he'], hb, hj⟩

theorem ancB_spec (all : List Oper) : ∀ (os : List Oper) (acc : List Nat), os = all.drop acc.length →
    (∀ i j, i < acc.length → (acc.getD i 0).testBit j = true → ∀ L, ClosedL all L → L i → L j) →
    ∀ i j, ((ancB os acc).getD i 0).testBit j = true → ∀ L, ClosedL all L → L i → L j
  | [], acc, ho, hacc, i, j, h, L, hL, hi => by
    simp only [ancB] at h
    by_cases hc : i < acc.length
    · exact hacc i j hc h L hL hi
    · rw [List.getD_eq_getElem?_getD, List.getElem?_eq_none (by omega)] at h
      simp at h
  | o :: os, acc, ho, hacc, i, j, h, L, hL, hi => by
    have hio : all[acc.length]? = some o := by
      have := congrArg (fun l : List Oper => l[0]?) ho
      simp at this
      exact this.symm
    have hos : os = all.drop (acc.length + 1) := by
      have := congrArg List.tail ho
      simpa using this
    simp only [ancB] at h
    refine ancB_spec all os _ (by simpa using hos) ?_ i j h L hL hi
    intro i' j' hi' hb L' hL' hLi
    by_cases hc : i' < acc.length
    · rw [List.getD_eq_getElem?_getD, List.getElem?_append_left hc, ← List.getD_eq_getElem?_getD] at hb
      exact hacc i' j' hc hb L' hL' hLi
    · have hi'' : i' = acc.length := by simp at hi'; omega
      subst hi''
      rw [List.getD_eq_getElem?_getD, List.getElem?_append_right (Nat.le_refl _)] at hb
      simp only [Nat.sub_self, List.getElem?_cons_zero, Option.getD_some] at hb
      rcases fold_bits acc j' _ _ hb with h0 | ⟨e, he, hbe, hj⟩
      · simp at h0
      · have hLe := hL' _ o hio hLi e he hbe
        rcases hj with rfl | hj
        · exact hLe
        · by_cases hce : e.on < acc.length
          · exact hacc e.on j' hce hj L' hL' hLe
          · rw [List.getD_eq_getElem?_getD, List.getElem?_eq_none (by omega)] at hj
            simp at hj

/-- What the check of a region says. -/
structure DrawFacts (ops : Array Oper) (cs : List Cls) : Prop where
  deps : ∀ (i : Nat) (o : Oper), ops[i]? = some o → ∀ e ∈ o.after.toList, Region.binds .any e = true → e.on < i
  dst : ∀ (i j : Nat) (o p : Oper) (d : Tmp), i ≠ j → ops[i]? = some o → ops[j]? = some p → p.dst = some d → o.dst ≠ some d
  use : ∀ (i j : Nat) (o p : Oper) (d : Tmp), i ≠ j → ops[i]? = some o → ops[j]? = some p → p.dst = some d → d ∈ opTmps ops o →
    (j < i → ∀ L, ClosedL ops.toList L → L i → L j) ∧ (i < j → ∀ L, ClosedL ops.toList L → L j → L i)
  cls : ∀ (i j : Nat), i ≠ j → i < ops.size → j < ops.size → clash (cs.getD i .pure) (cs.getD j .pure) = true →
    (j < i → ∀ L, ClosedL ops.toList L → L i → L j) ∧ (i < j → ∀ L, ClosedL ops.toList L → L j → L i)

theorem drawOk_facts {ops : Array Oper} {cs : List Cls} (h : drawOk ops cs = true) : DrawFacts ops cs := by
  unfold drawOk at h
  simp only [List.all_eq_true, List.mem_range, Bool.and_eq_true, Bool.or_eq_true, Bool.not_eq_true', decide_eq_true_eq, beq_iff_eq] at h
  have han : ∀ i j, ((ancB ops.toList []).getD i 0).testBit j = true → ∀ L, ClosedL ops.toList L → L i → L j := ancB_spec ops.toList ops.toList [] (by simp) (fun i j hi => by simp at hi)
  have hlt : ∀ {i : Nat} {o : Oper}, ops[i]? = some o → i < ops.size ∧ ops.getD i default = o := fun {i o} hi => by
    obtain ⟨h1, h2⟩ := Array.getElem?_eq_some_iff.1 hi
    exact ⟨h1, by simp [Array.getD, h1, h2]⟩
  have ord : ∀ i j, (if j < i then ((ancB ops.toList []).getD i 0).testBit j else ((ancB ops.toList []).getD j 0).testBit i) = true →
      (j < i → ∀ L, ClosedL ops.toList L → L i → L j) ∧ (i < j → ∀ L, ClosedL ops.toList L → L j → L i) := fun i j hb => by
    constructor
    · intro hji L hL hi
      rw [if_pos hji] at hb
      exact han i j hb L hL hi
    · intro hij L hL hj
      rw [if_neg (by omega)] at hb
      exact han j i hb L hL hj
  constructor
  · intro i o hi e he hb
    obtain ⟨h1, h2⟩ := hlt hi
    have := (h i h1).1.1 e (by rw [h2]; exact he)
    rcases this with hc | hc
    · rw [hb] at hc; contradiction
    · exact hc
  · intro i j o p d hne hi hj hp
    obtain ⟨h1, h2⟩ := hlt hi
    obtain ⟨h3, h4⟩ := hlt hj
    rcases (h i h1).2 j h3 with hc | hc
    · exact absurd hc hne
    · have := hc.1
      rw [h4, h2, hp] at this
      simp only [Bool.and_eq_true, bne_iff_ne] at this
      exact this.2
  · intro i j o p d hne hi hj hp hd
    obtain ⟨h1, h2⟩ := hlt hi
    obtain ⟨h3, h4⟩ := hlt hj
    rcases (h i h1).2 j h3 with hc | hc
    · exact absurd hc hne
    · have := hc.1
      rw [h4, h2, hp] at this
      simp only [Bool.and_eq_true, Bool.or_eq_true, Bool.not_eq_true'] at this
      rcases this.1 with hn | hb
      · have hcn : (opTmps ops o).contains d = true := by simpa using hd
        rw [hcn] at hn; contradiction
      · exact ord i j hb
  · intro i j hne hi hj hcl
    rcases (h i hi).2 j hj with hc | hc
    · exact absurd hc hne
    · rcases hc.2 with hb | hn
      · exact ord i j hb
      · rw [hcl] at hn; contradiction

end
end Go.Proofs.YtjmldlknegbimaaGreatDoor.Sx

/- A region whose order is open: every order is simulated by the reference run. Own library, part 13. -/
set_option linter.unusedVariables false
set_option linter.unusedSimpArgs false
namespace Go.Proofs.YtjmldlknegbimaaGreatDoor.Sx
open Go Go.RowKit

section
variable {P : Program} {G : Gl} {X : Cxt} {nt : Nat} {q : Bool} {ro : Option Nat}

/-- The slots when just the listed operations have been carried out. -/
noncomputable def envL (ops : Array Oper) (e : Env) (val : Nat → AV) (L : Nat → Prop) : Env := fun t =>
  open Classical in if h : ∃ i, L i ∧ dstOf ops i = some t then val h.choose else e t

structure Setup (P : Program) (G : Gl) (ops : Array Oper) (e : Env) (H : List HO) (cs : List Cls) (env : Nat → Env) (Hs : Nat → List HO) (val : Nat → AV) (cl : Nat → Cls) : Prop where
  e0 : env 0 = e
  h0 : Hs 0 = H
  ran : ∀ i, i < ops.size → Ran P G ops env Hs val cl i
  hcs : ∀ i, i < ops.size → cs.getD i .pure = cl i
  facts : DrawFacts ops cs

variable {ops : Array Oper} {e : Env} {H : List HO} {cs : List Cls} {env : Nat → Env} {Hs : Nat → List HO} {val : Nat → AV} {cl : Nat → Cls}

theorem dstOf_some {i : Nat} {t : Tmp} (h : dstOf ops i = some t) : ∃ o, ops[i]? = some o ∧ o.dst = some t := by
  unfold dstOf at h
  cases hi : ops[i]? with
  | none => rw [hi] at h; simp at h
  | some o => rw [hi] at h; exact ⟨o, rfl, h⟩

theorem dst_inj (s : Setup P G ops e H cs env Hs val cl) {i j : Nat} {t : Tmp} (hi : dstOf ops i = some t) (hj : dstOf ops j = some t) : i = j := by
  obtain ⟨o, h1, h2⟩ := dstOf_some hi
  obtain ⟨p, h3, h4⟩ := dstOf_some hj
  by_cases hne : i = j
  · exact hne
  · exact absurd h2 (s.facts.dst i j o p t hne h1 h3 h4)

theorem envL_of (s : Setup P G ops e H cs env Hs val cl) {L : Nat → Prop} {i : Nat} {t : Tmp} (hL : L i) (hi : dstOf ops i = some t) : envL ops e val L t = val i := by
  unfold envL
  have h : ∃ i, L i ∧ dstOf ops i = some t := ⟨i, hL, hi⟩
  rw [dif_pos h]
  rw [dst_inj s h.choose_spec.2 hi]

theorem envL_none {L : Nat → Prop} {t : Tmp} (h : ∀ i, L i → dstOf ops i ≠ some t) : envL ops e val L t = e t := by
  unfold envL
  rw [dif_neg]
  rintro ⟨i, h1, h2⟩
  exact h i h1 h2

/-- The reference run's slots, likewise. -/
theorem env_at (s : Setup P G ops e H cs env Hs val cl) : ∀ (i : Nat), i ≤ ops.size → env i = envL ops e val (fun j => j < i)
  | 0, _ => by
    rw [s.e0]
    funext t
    rw [envL_none]
    intro i hi; omega
  | i + 1, hi => by
    obtain ⟨o, h1, h2, _⟩ := s.ran i (by omega)
    have ih := env_at s i (by omega)
    rw [h2, ih]
    funext t
    cases hd : o.dst with
    | none =>
      simp only [updO]
      by_cases hx : ∃ j, j < i ∧ dstOf ops j = some t
      · obtain ⟨j, hj1, hj2⟩ := hx
        rw [envL_of s (L := fun j => j < i) hj1 hj2, envL_of s (L := fun j => j < i + 1) (i := j) (by omega) hj2]
      · rw [envL_none (fun j hj hjd => hx ⟨j, hj, hjd⟩), envL_none]
        intro j hj hjd
        by_cases hji : j = i
        · subst hji
          simp [dstOf, h1, hd] at hjd
        · exact hx ⟨j, by omega, hjd⟩
    | some d =>
      simp only [updO, upd]
      by_cases ht : t = d
      · subst ht
        rw [if_pos rfl, envL_of s (L := fun j => j < i + 1) (i := i) (by omega) (by simp [dstOf, h1, hd])]
      · rw [if_neg ht]
        by_cases hx : ∃ j, j < i ∧ dstOf ops j = some t
        · obtain ⟨j, hj1, hj2⟩ := hx
          rw [envL_of s (L := fun j => j < i) hj1 hj2, envL_of s (L := fun j => j < i + 1) (i := j) (by omega) hj2]
        · rw [envL_none (fun j hj hjd => hx ⟨j, hj, hjd⟩), envL_none]
          intro j hj hjd
          by_cases hji : j = i
          · subst hji
            simp [dstOf, h1, hd] at hjd
            exact ht hjd.symm
          · exact hx ⟨j, by omega, hjd⟩

theorem envL_put (s : Setup P G ops e H cs env Hs val cl) {L : Nat → Prop} {i : Nat} {o : Oper} (hi : ops[i]? = some o) (hL : ¬ L i) : envL ops e val (fun j => L j ∨ j = i) = updO (envL ops e val L) o.dst (val i) := by
  funext t
  cases hd : o.dst with
  | none =>
    simp only [updO]
    by_cases hx : ∃ j, L j ∧ dstOf ops j = some t
    · obtain ⟨j, hj1, hj2⟩ := hx
      rw [envL_of s hj1 hj2, envL_of s (L := fun j => L j ∨ j = i) (.inl hj1) hj2]
    · rw [envL_none (L := L) (fun j hj hjd => hx ⟨j, hj, hjd⟩), envL_none]
      rintro j (hj | rfl) hjd
      · exact hx ⟨j, hj, hjd⟩
      · simp [dstOf, hi, hd] at hjd
  | some d =>
    simp only [updO, upd]
    by_cases ht : t = d
    · subst ht
      rw [if_pos rfl, envL_of s (L := fun j => L j ∨ j = i) (i := i) (.inr rfl) (by simp [dstOf, hi, hd])]
    · rw [if_neg ht]
      by_cases hx : ∃ j, L j ∧ dstOf ops j = some t
      · obtain ⟨j, hj1, hj2⟩ := hx
        rw [envL_of s hj1 hj2, envL_of s (L := fun j => L j ∨ j = i) (.inl hj1) hj2]
      · rw [envL_none (L := L) (fun j hj hjd => hx ⟨j, hj, hjd⟩), envL_none]
        rintro j (hj | rfl) hjd
        · exact hx ⟨j, hj, hjd⟩
        · simp [dstOf, hi, hd] at hjd
          exact ht hjd.symm

/-- A slot that an operation reads holds what it held in the reference run. -/
theorem slot_same (s : Setup P G ops e H cs env Hs val cl) {L : Nat → Prop} {i : Nat} {o : Oper} (hi : ops[i]? = some o) (hL : ¬ L i) (hc : ClosedL ops.toList L) (hc' : ClosedL ops.toList (fun j => L j ∨ j = i))
    {t : Tmp} (ht : t ∈ opTmps ops o) : envL ops e val L t = env i t := by
  have hlt : i < ops.size := (Array.getElem?_eq_some_iff.1 hi).1
  rw [env_at s i (by omega)]
  by_cases hx : ∃ j, dstOf ops j = some t
  · obtain ⟨j, hj⟩ := hx
    obtain ⟨p, hp1, hp2⟩ := dstOf_some hj
    by_cases hji : j = i
    · subst hji
      rw [envL_none, envL_none]
      · intro k hk hkd
        have := dst_inj s hkd hj
        omega
      · intro k hk hkd
        have := dst_inj s hkd hj
        subst this; exact hL hk
    · have hu := s.facts.use i j o p t (fun h => hji h.symm) hi hp1 hp2 ht
      rcases Nat.lt_or_gt_of_ne hji with hlt' | hgt
      · have hLj : L j := by
          rcases hu.1 hlt' _ hc' (.inr rfl) with h | h
          · exact h
          · exact absurd h hji
        rw [envL_of s hLj hj, envL_of s (L := fun k => k < i) hlt' hj]
      · have hLj : ¬ L j := fun hl => hL (hu.2 hgt L hc hl)
        rw [envL_none, envL_none]
        · intro k hk hkd
          have := dst_inj s hkd hj
          omega
        · intro k hk hkd
          have := dst_inj s hkd hj
          subst this; exact hLj hk
  · rw [envL_none (fun j _ hj => hx ⟨j, hj⟩), envL_none (fun j _ hj => hx ⟨j, hj⟩)]

theorem Hs_const (s : Setup P G ops e H cs env Hs val cl) : ∀ (d k : Nat), k + d ≤ ops.size → (∀ j, k ≤ j → j < k + d → (cl j).isW = false) → Hs (k + d) = Hs k
  | 0, k, _, _ => rfl
  | d + 1, k, hk, h => by
    have ih := Hs_const s d k (by omega) (fun j h1 h2 => h j h1 (by omega))
    rw [← ih]
    obtain ⟨o, _, _, hd⟩ := s.ran (k + d) (by omega)
    have hnw := h (k + d) (by omega) (by omega)
    rw [show k + (d + 1) = k + d + 1 from rfl]
    rcases hd with ⟨_, _, he, _⟩ | ⟨_, hd⟩
    · exact he
    · generalize hH : Hs (k + d + 1) = H1 at hd
      generalize hc : cl (k + d) = c at hd hnw
      generalize hv : val (k + d) = v at hd
      cases hd with
      | pst => rfl
      | hst r H' h0 h1 =>
        have hs := hst_says h1
        generalize hcc : hcls G (env (k + d)) (Hs (k + d)) o.op v = cc at hs hnw
        cases cc with
        | pure => exact hs.elim
        | write => simp [Cls.isW] at hnw
        | read => exact hs
        | fresh => exact hs.1
        | rdo id => exact hs.1
        | wro id => simp [Cls.isW] at hnw
      | callP => rfl
      | callW f args ts hop F caps hf r H' hfn c hcc =>
        cases c <;> first | exact hcc | exact hcc.elim | simp [Cls.isW] at hnw

/-- Between two points no step touched an object. -/
theorem Hs_obj (s : Setup P G ops e H cs env Hs val cl) (id : Nat) : ∀ (d k : Nat), k + d ≤ ops.size → (∀ j, k ≤ j → j < k + d → (cl j).isW = true → ∃ id', cl j = .wro id' ∧ id ≠ id') → (Hs (k + d))[id]? = (Hs k)[id]?
  | 0, k, _, _ => rfl
  | d + 1, k, hk, h => by
    have ih := Hs_obj s id d k (by omega) (fun j h1 h2 => h j h1 (by omega))
    rw [← ih]
    obtain ⟨o, _, _, hd⟩ := s.ran (k + d) (by omega)
    have hnw := h (k + d) (by omega) (by omega)
    rw [show k + (d + 1) = k + d + 1 from rfl]
    rcases hd with ⟨_, _, he, _⟩ | ⟨_, hd⟩
    · rw [he]
    · generalize hH : Hs (k + d + 1) = H1 at hd
      generalize hc : cl (k + d) = c at hd hnw
      generalize hv : val (k + d) = v at hd
      cases hd with
      | pst => rfl
      | hst r H' h0 h1 =>
        have hs := hst_says h1
        generalize hcc : hcls G (env (k + d)) (Hs (k + d)) o.op v = cc at hs hnw
        cases cc with
        | pure => exact hs.elim
        | write => obtain ⟨_, h2, _⟩ := hnw rfl; contradiction
        | read => have hs : _ = _ := hs; rw [hs]
        | fresh => rw [hs.1]
        | rdo id => rw [hs.1]
        | wro id' =>
          obtain ⟨_, h2, h3⟩ := hnw rfl
          simp only [Cls.wro.injEq] at h2
          subst h2
          exact hs id h3
      | callP => rfl
      | callW f args ts hop F caps hf r H' hfn c hcc =>
        cases c with
        | read => have hcc : _ = _ := hcc; rw [hcc]
        | write => obtain ⟨_, h2, _⟩ := hnw rfl; contradiction
        | _ => exact hcc.elim

theorem Hs_eq (s : Setup P G ops e H cs env Hs val cl) {k i : Nat} (hk : k ≤ ops.size) (hi : i ≤ ops.size) (h : ∀ j, (k ≤ j ∧ j < i) ∨ (i ≤ j ∧ j < k) → (cl j).isW = false) : Hs k = Hs i := by
  rcases Nat.le_total k i with hle | hle
  · have := Hs_const s (i - k) k (by omega) (fun j h1 h2 => h j (.inl ⟨h1, by omega⟩))
    rw [show k + (i - k) = i from by omega] at this
    exact this.symm
  · have := Hs_const s (k - i) i (by omega) (fun j h1 h2 => h j (.inr ⟨h1, by omega⟩))
    rw [show i + (k - i) = k from by omega] at this
    exact this

theorem Hs_obj_eq (s : Setup P G ops e H cs env Hs val cl) (id : Nat) {k i : Nat} (hk : k ≤ ops.size) (hi : i ≤ ops.size) (h : ∀ j, (k ≤ j ∧ j < i) ∨ (i ≤ j ∧ j < k) → (cl j).isW = true → ∃ id', cl j = .wro id' ∧ id ≠ id') : (Hs k)[id]? = (Hs i)[id]? := by
  rcases Nat.le_total k i with hle | hle
  · have := Hs_obj s id (i - k) k (by omega) (fun j h1 h2 => h j (.inl ⟨h1, by omega⟩))
    rw [show k + (i - k) = i from by omega] at this
    exact this.symm
  · have := Hs_obj s id (k - i) i (by omega) (fun j h1 h2 => h j (.inr ⟨h1, by omega⟩))
    rw [show i + (k - i) = k from by omega] at this
    exact this

/-- How things stand when just the listed operations have been carried out. -/
def Mid (P : Program) (G : Gl) (X : Cxt) (q : Bool) (nt : Nat) (ops : Array Oper) (e : Env) (Hs : Nat → List HO) (val : Nat → AV) (cl : Nat → Cls) (L : Nat → Prop) (a : Act) (w : World) : Prop :=
  ClosedL ops.toList L ∧ ∃ K ι k, k ≤ ops.size ∧ (∀ j, j < k → (cl j).isW = true → L j) ∧ (∀ j, k ≤ j → j < ops.size → (cl j).isW = true → ¬ L j) ∧ SR X K ι (Hs k) w ∧ GOk K G ∧ REnv q K ι (Hs k).length nt (envL ops e val L) a

theorem mid_step (s : Setup P G ops e H cs env Hs val cl) (hd : ∀ (j : Nat) (o' : Oper) (t : Tmp), ops[j]? = some o' → o'.dst = some t → t < nt) {L : Nat → Prop} {a : Act} {w : World} (hm : Mid P G X q nt ops e Hs val cl L a w)
    {i : Nat} (hlt : i < ops.size) (hL : ¬ L i) (hdeps : ∀ o, ops[i]? = some o → ∀ e ∈ o.after.toList, Region.binds .any e = true → L e.on) {K1 : Act → World → Prop} {Q1 : Exit → Act → World → Prop}
    (hk : ∀ a' w', Mid P G X q nt ops e Hs val cl (fun j => L j ∨ j = i) a' w' → K1 a' w') : wpOpIn (FR ro) 0 P ops Q1 i K1 a w := by
  obtain ⟨hc, K, ι, k, hk1, hk2, hk3, hsr, hG, he⟩ := hm
  obtain ⟨o, ho, hnext, hdid⟩ := s.ran i hlt
  have hc' : ClosedL ops.toList (fun j => L j ∨ j = i) := by
    rintro j p hp (hj | rfl) ed hed hb
    · exact .inl (hc j p hp hj ed hed hb)
    · refine .inl (hdeps p (by simpa using hp) ed hed hb)
  have hslot : ∀ t, t ∈ opTmps ops o → envL ops e val L t = env i t := fun t ht => slot_same s ho hL hc hc' ht
  have hops : ∀ x ∈ o.op.operands, ev G (envL ops e val L) x = ev G (env i) x := fun x hx => ev_congr fun t hxt => hslot t (by
    subst hxt
    unfold opTmps
    simp only [List.mem_append, List.mem_filterMap]
    exact .inl ⟨.tmp t, by simpa using hx, rfl⟩)
  have hwant : wantA ops (envL ops e val L) o.guard = wantA ops (env i) o.guard := by
    unfold wantA
    cases hg : o.guard with
    | none => rfl
    | some g =>
      obtain ⟨j, b⟩ := g
      simp only
      cases hdj : dstOf ops j with
      | none => rfl
      | some t =>
        simp only
        rw [hslot t (by unfold opTmps; simp [hg, hdj])]
  have hdo : ∀ t, o.dst = some t → t < nt := fun t ht => hd i o t ho ht
  -- what the next state is
  have fin : ∀ (K' : Mem) (ι' : Nat → Pl) (k' : Nat) (v : Value) (w' : World), k' ≤ ops.size → (∀ j, j < k' → (cl j).isW = true → L j ∨ j = i) → (∀ j, k' ≤ j → j < ops.size → (cl j).isW = true → ¬ (L j ∨ j = i)) →
      SR X K' ι' (Hs k') w' → Mem.le K K' → Pls.le (Hs k).length ι ι' → (Hs k).length ≤ (Hs k').length → RelA K' ι' (Hs k').length (val i) v → K1 (a.put o.dst v) w' := by
    intro K' ι' k' v w' h1 h2 h3 h4 h5 h6 h7 h8
    refine hk _ _ ⟨hc', K', ι', k', h1, h2, h3, h4, hG.mono h5, ?_⟩
    rw [envL_put s ho hL]
    exact (he.mono h5 h7 h6).put hdo h8
  unfold wpOpIn
  simp only [ho]
  -- the ordering of uses of memory
  have hord : ∀ j, j < ops.size → j ≠ i → clash (cl i) (cl j) = true → (j < i → L j) ∧ (i < j → ¬ L j) := fun j hj hne hcl => by
    have := s.facts.cls i j (fun h => hne h.symm) hlt hj (by rw [s.hcs i hlt, s.hcs j hj]; exact hcl)
    refine ⟨fun hji => ?_, fun hij hLj => hL (this.2 hij L hc hLj)⟩
    rcases this.1 hji _ hc' (.inr rfl) with h | h
    · exact h
    · exact absurd h hne
  rcases hdid with ⟨hwf, hval, hHs, hcl⟩ | ⟨hwt, hdid⟩
  · have hw := yielded_of (o := o) he (by rw [hwant]; exact hwf) hd
    rw [hw]
    simp only [Bool.false_eq_true, if_false]
    refine ⟨fun _ _ => trivial, ?_⟩
    refine fin K ι k undef w hk1 (fun j h1 h2 => .inl (hk2 j h1 h2)) (fun j h1 h2 h3 => ?_) hsr (Mem.le_refl K) (Pls.le_refl _ _) (Nat.le_refl _) (by rw [hval]; exact .d _ _ (.tup _ _ rfl (fun i hi => by simp at hi)))
    rintro (h4 | rfl)
    · exact hk3 j h1 h2 h3 h4
    · rw [hcl] at h3; simp [Cls.isW] at h3
  · have hw := yielded_of (o := o) he (by rw [hwant]; exact hwt) hd
    rw [hw]
    simp only [if_true]
    have hρ := ev_rel (G := G) hG he.rel
    have keep : (cl i).isW = false → (∀ j, k ≤ j → j < ops.size → (cl j).isW = true → ¬ (L j ∨ j = i)) := fun hnw j h1 h2 h3 => by
      rintro (h4 | rfl)
      · exact hk3 j h1 h2 h3 h4
      · rw [hnw] at h3; contradiction
    have between : ∀ j, (k ≤ j ∧ j < i) ∨ (i ≤ j ∧ j < k) → (cl j).isW = true → j ≠ i → clash (cl i) (cl j) = true → False := fun j hj hjw hji hcl => by
      have ho := hord j (by omega) hji hcl
      rcases hj with ⟨h1, h2⟩ | ⟨h1, h2⟩
      · exact hk3 j h1 (by omega) hjw (ho.1 h2)
      · exact ho.2 (by omega) (hk2 j h2 hjw)
    have same : (∀ c : Cls, c.isW = true → clash (cl i) c = true) → Hs k = Hs i ∧ ((cl i).isW = true → k ≤ i) := fun hcw => by
      have hki : (cl i).isW = true → k ≤ i := fun hiw => by
        rcases Nat.lt_or_ge i k with h | h
        · exact absurd (hk2 i h hiw) hL
        · exact h
      refine ⟨Hs_eq s hk1 (by omega) fun j hj => ?_, hki⟩
      cases hjw : (cl j).isW with
      | false => rfl
      | true =>
        exfalso
        by_cases hji : j = i
        · subst hji
          have := hki hjw
          omega
        · exact between j hj hjw hji (hcw _ hjw)
    have sameO : ∀ id, cl i = .rdo id → (Hs k)[id]? = (Hs i)[id]? := fun id hci => by
      refine Hs_obj_eq s id hk1 (by omega) fun j hj hjw => ?_
      have hji : j ≠ i := by rintro rfl; rw [hci] at hjw; simp [Cls.isW] at hjw
      cases hcj : cl j with
      | write => exact (between j hj hjw hji (by rw [hci, hcj]; rfl)).elim
      | wro id' =>
        refine ⟨id', rfl, fun he => ?_⟩
        subst he
        exact between j hj hjw hji (by rw [hci, hcj]; simp [clash])
      | _ => rw [hcj] at hjw; simp [Cls.isW] at hjw
    have clashW : ∀ c d : Cls, c.isW = true → d.isW = true → clash c d = true := fun c d h1 h2 => by
      cases c <;> simp [Cls.isW] at h1 <;> cases d <;> simp [Cls.isW] at h2 <;> rfl
    have wnext : (cl i).isW = true → (∀ j, j < i + 1 → (cl j).isW = true → L j ∨ j = i) ∧ (∀ j, i + 1 ≤ j → j < ops.size → (cl j).isW = true → ¬ (L j ∨ j = i)) := fun hiw => by
      constructor
      · intro j hj hjw
        by_cases hji : j = i
        · exact .inr hji
        · exact .inl ((hord j (by omega) hji (clashW _ _ hiw hjw)).1 (by omega))
      · intro j h1 h2 hjw
        rintro (h4 | rfl)
        · exact (hord j h2 (by omega) (clashW _ _ hiw hjw)).2 (by omega) h4
        · omega
    generalize hci : cl i = c at hdid
    generalize hvi : val i = v at hdid fin
    generalize hHi : Hs (i + 1) = H1 at hdid
    cases hdid with
    | pst r hp =>
      rw [← pst_congr hops] at hp
      obtain ⟨u, hrun, hr⟩ := pst_sound (P := P) hp hρ hsr.agree
      exact oper_of_next hrun rfl (fin K ι k u w hk1 (fun j h1 h2 => .inl (hk2 j h1 h2)) (keep (by rw [hci]; rfl)) hsr (Mem.le_refl K) (Pls.le_refl _ _) (Nat.le_refl _) hr)
    | hst r H' h0 hh =>
      have hs := hst_says hh
      generalize hcc : hcls G (env i) (Hs i) o.op v = cc at hs hci
      have readLike : ∀ (hw : (cl i).isW = false), hst P G (env i) (Hs k) o.op = some (v, Hs k) → o.wpIn (FR ro) 0 P a w K1 Q1 := fun hw hh' => by
        rw [← hst_congr hops] at hh'
        obtain ⟨nx, u, w', hrun, hv, K', ι', s1, s2, s3, s4, s5⟩ := hst_sound (P := P) hh' hsr hρ
        exact oper_of_next hrun hv (fin K' ι' k u w' hk1 (fun j h1 h2 => .inl (hk2 j h1 h2)) (keep hw) s1 s3 s4 (Nat.le_refl _) s2)
      have writeLike : ∀ (hw : (cl i).isW = true), o.wpIn (FR ro) 0 P a w K1 Q1 := fun hw => by
        obtain ⟨hsame, _⟩ := same (fun c hc => clashW _ _ hw hc)
        rw [← hst_congr hops, ← hsame] at hh
        obtain ⟨nx, u, w', hrun, hv, K', ι', s1, s2, s3, s4, s5⟩ := hst_sound (P := P) hh hsr hρ
        obtain ⟨g1, g2⟩ := wnext hw
        exact oper_of_next hrun hv (fin K' ι' (i + 1) u w' (by omega) g1 g2 (by rw [hHi]; exact s1) s3 s4 (by rw [hHi]; exact s5) (by rw [hHi]; exact s2))
      cases cc with
      | pure => exact hs.elim
      | write => exact writeLike (by rw [hci]; rfl)
      | wro id => exact writeLike (by rw [hci]; rfl)
      | read =>
        have hs : _ = _ := hs
        obtain ⟨hsame, _⟩ := same (fun c hc => by rw [hci]; cases c <;> simp [Cls.isW] at hc <;> rfl)
        rw [hs, ← hsame] at hh
        exact readLike (by rw [hci]; rfl) hh
      | fresh => exact readLike (by rw [hci]; rfl) (hs.2 _)
      | rdo id => exact readLike (by rw [hci]; rfl) (hs.2 _ (sameO id hci))
    | callP f args ts hop F hf ds hds r hpf =>
      have hf' : ev G (envL ops e val L) f = .d (.func F) := by
        rw [hops f (by rw [hop]; simp [Op.operands, Call.operands])]; exact hf
      have hargs : args.toList.map (ev G (envL ops e val L)) = args.toList.map (ev G (env i)) := List.map_congr_left fun x hx => hops x (by rw [hop]; simp [Op.operands, Call.operands]; exact .inr (by simpa using hx))
      have hall := allD_get hds
      have hmap : normAL (args.toList.map (ev G (env i))) = ds.map .d := by
        apply List.ext_getElem?
        intro q
        by_cases hq : q < (normAL (args.toList.map (ev G (env i)))).length
        · have := hall.2 q hq
          rw [List.getElem?_eq_getElem hq, List.getElem?_map, List.getElem?_eq_getElem (by omega)]
          simp only [List.getD_eq_getElem?_getD, List.getElem?_eq_getElem hq, Option.getD_some, List.getElem?_eq_getElem (show q < ds.length by omega)] at this
          rw [this]; rfl
        · rw [List.getElem?_eq_none (by omega), List.getElem?_eq_none (by simp; omega)]
      have hfn := hpf (Hs k)
      rw [← hmap, ← hargs] at hfn
      refine call_sound hop hf' (caps := []) (.inl ⟨rfl, rfl⟩) (by simpa using hfn) hsr hG hρ ?_
      rintro u w' ⟨K', ι', s1, s2, s3, s4, s5⟩
      exact fin K' ι' k u w' hk1 (fun j h1 h2 => .inl (hk2 j h1 h2)) (keep (by rw [hci]; rfl)) s1 s3 s4 (Nat.le_refl _) s2
    | callW f args ts hop F caps hf r H' hfn c hcc =>
      have hf' : ev G (envL ops e val L) f = ev G (env i) f := hops f (by rw [hop]; simp [Op.operands, Call.operands])
      have hargs : args.toList.map (ev G (envL ops e val L)) = args.toList.map (ev G (env i)) := List.map_congr_left fun x hx => hops x (by rw [hop]; simp [Op.operands, Call.operands]; exact .inr (by simpa using hx))
      cases c with
      | write =>
        obtain ⟨hsame, _⟩ := same (fun c hc => clashW _ _ (by rw [hci]; rfl) hc)
        rw [← hsame, ← hargs] at hfn
        obtain ⟨g1, g2⟩ := wnext (by rw [hci]; rfl)
        refine call_sound hop hf' hf hfn hsr hG hρ ?_
        rintro u w' ⟨K', ι', s1, s2, s3, s4, s5⟩
        exact fin K' ι' (i + 1) u w' (by omega) g1 g2 (by rw [hHi]; exact s1) s3 s4 (by rw [hHi]; exact s5) (by rw [hHi]; exact s2)
      | read =>
        have hcc : _ = _ := hcc
        obtain ⟨hsame, _⟩ := same (fun c hc => by rw [hci]; cases c <;> simp [Cls.isW] at hc <;> rfl)
        rw [hcc, ← hsame, ← hargs] at hfn
        refine call_sound hop hf' hf hfn hsr hG hρ ?_
        rintro u w' ⟨K', ι', s1, s2, s3, s4, s5⟩
        exact fin K' ι' k u w' hk1 (fun j h1 h2 => .inl (hk2 j h1 h2)) (keep (by rw [hci]; rfl)) s1 s3 s4 (Nat.le_refl _) s2
      | _ => exact hcc.elim

theorem mid_end (s : Setup P G ops e H cs env Hs val cl) {L : Nat → Prop} {a : Act} {w : World} (hm : Mid P G X q nt ops e Hs val cl L a w) (hall : ∀ i, i < ops.size → L i) (hout : ∀ i, L i → i < ops.size) :
    ∃ K ι, SR X K ι (Hs ops.size) w ∧ GOk K G ∧ REnv q K ι (Hs ops.size).length nt (env ops.size) a := by
  obtain ⟨hc, K, ι, k, hk1, hk2, hk3, hsr, hG, he⟩ := hm
  have hH : Hs k = Hs ops.size := Hs_eq s hk1 (Nat.le_refl _) fun j hj => by
    cases hjw : (cl j).isW with
    | false => rfl
    | true =>
    exfalso
    rcases hj with ⟨h1, h2⟩ | ⟨h1, h2⟩
    · exact hk3 j h1 h2 hjw (hall j h2)
    · omega
  have hE : envL ops e val L = env ops.size := by
    rw [env_at s _ (Nat.le_refl _)]
    have : L = fun j => j < ops.size := by
      funext j
      exact propext ⟨hout j, hall j⟩
    rw [this]
  rw [hH] at hsr he
  rw [hE] at he
  exact ⟨K, ι, hsr, hG, he⟩

def Lof (listed : Array Bool) (i : Nat) : Prop := listed.getD i false = true

theorem Lof_set {listed : Array Bool} {i : Nat} (hi : i < listed.size) : Lof (listed.setIfInBounds i true) = fun j => Lof listed j ∨ j = i := by
  funext j
  apply propext
  unfold Lof
  simp only [Array.getD_eq_getD_getElem?, Array.getElem?_setIfInBounds]
  by_cases h : i = j
  · subst h; simp [hi]
  · rw [if_neg h]
    constructor
    · exact .inl
    · rintro (h' | h')
      · exact h'
      · exact absurd h'.symm h

theorem wpAny_mid (s : Setup P G ops e H cs env Hs val cl) (hd : ∀ (j : Nat) (o' : Oper) (t : Tmp), ops[j]? = some o' → o'.dst = some t → t < nt) {Q1 : Exit → Act → World → Prop}
    (hq : ∀ a w K ι, SR X K ι (Hs ops.size) w → GOk K G → REnv q K ι (Hs ops.size).length nt (env ops.size) a → Q1 .normal a w) :
    ∀ (fuel : Nat) (listed : Array Bool) (a : Act) (w : World), listed.size = ops.size → ((List.range ops.size).filter (fun i => !listed.getD i false)).length ≤ fuel → Mid P G X q nt ops e Hs val cl (Lof listed) a w →
      wpAnyIn (FR ro) 0 P .any ops Q1 fuel listed a w := by
  -- when nothing is ready, all is listed
  have stuckAll : ∀ (listed : Array Bool), listed.size = ops.size → Region.ready .any ops listed = [] → ∀ i, i < ops.size → Lof listed i := by
    intro listed hs hr
    intro i
    induction i using Nat.strongRecOn with
    | _ i ih =>
      intro hi
      by_cases hc : Lof listed i
      · exact hc
      · exfalso
        obtain ⟨o, ho⟩ : ∃ o, ops[i]? = some o := ⟨ops[i], by simp [hi]⟩
        have hmem : i ∈ Region.ready .any ops listed := by
          unfold Region.ready
          simp only [List.mem_filter, List.mem_range]
          refine ⟨hi, ?_⟩
          have h1 : listed.getD i true = false := by
            have : listed.getD i false = false := by simpa [Lof] using hc
            simpa [Array.getD, hs, hi] using this
          rw [h1, ho]
          simp only [Bool.not_false, Bool.true_and, Option.map_some, Option.getD_some]
          rw [Array.all_eq_true']
          intro ed hed
          cases hb : Region.binds .any ed with
          | false => rfl
          | true =>
            have hlt := s.facts.deps i o ho ed (by simpa using hed) hb
            have := ih ed.on hlt (by omega)
            simpa [Lof] using this
        rw [hr] at hmem
        simp at hmem
  intro fuel
  induction fuel with
  | zero =>
    intro listed a w hs hf hm
    have hall : ∀ i, i < ops.size → Lof listed i := fun i hi => by
      have h0 : (List.range ops.size).filter (fun i => !listed.getD i false) = [] := List.eq_nil_of_length_eq_zero (by omega)
      rw [List.filter_eq_nil_iff] at h0
      have := h0 i (List.mem_range.2 hi)
      simpa [Lof] using this
    obtain ⟨K, ι, g1, g2, g3⟩ := mid_end s hm hall (fun i hi => by
      unfold Lof at hi
      rcases Nat.lt_or_ge i ops.size with h | h
      · exact h
      · simp [Array.getD, hs, Nat.not_lt.2 h] at hi)
    refine ⟨?_, hq a w K ι g1 g2 g3⟩
    unfold Region.ready
    rw [List.filter_eq_nil_iff]
    intro i hi
    have := hall i (List.mem_range.1 hi)
    have hi' : i < listed.size := by rw [hs]; exact List.mem_range.1 hi
    have h1 : listed.getD i true = true := by
      unfold Lof at this
      simpa [Array.getD, hi'] using this
    rw [h1]
    simp
  | succ fuel ih =>
    intro listed a w hs hf hm
    refine ⟨fun hr => ?_, fun i hi => ?_⟩
    · obtain ⟨K, ι, g1, g2, g3⟩ := mid_end s hm (stuckAll listed hs hr) (fun i hi => by
        unfold Lof at hi
        rcases Nat.lt_or_ge i ops.size with h | h
        · exact h
        · simp [Array.getD, hs, Nat.not_lt.2 h] at hi)
      exact hq a w K ι g1 g2 g3
    · unfold Region.ready at hi
      simp only [List.mem_filter, List.mem_range, Bool.and_eq_true, Bool.not_eq_true'] at hi
      obtain ⟨hlt, hnl, hdep⟩ := hi
      have hnL : ¬ Lof listed i := by
        unfold Lof
        simpa [Array.getD, hs, hlt] using hnl
      refine mid_step s hd hm hlt hnL (fun o ho ed hed hb => ?_) (fun a' w' hm' => ?_)
      · rw [ho] at hdep
        simp only [Option.map_some, Option.getD_some] at hdep
        rw [Array.all_eq_true'] at hdep
        have := hdep ed (by simpa using hed)
        rw [hb] at this
        simpa [Lof] using this
      · refine ih _ a' w' (by simpa using hs) ?_ (by rw [Lof_set (by omega)]; exact hm')
        have hlen : ((List.range ops.size).filter (fun j => !(listed.setIfInBounds i true).getD j false)).length < ((List.range ops.size).filter (fun j => !listed.getD j false)).length := by
          have hsub : (List.range ops.size).filter (fun j => !(listed.setIfInBounds i true).getD j false) = ((List.range ops.size).filter (fun j => !listed.getD j false)).filter (fun j => j != i) := by
            rw [List.filter_filter]
            apply List.filter_congr
            intro j _
            simp only [Array.getD_eq_getD_getElem?, Array.getElem?_setIfInBounds]
            by_cases hij : i = j
            · subst hij; simp [hs, hlt]
            · rw [if_neg hij]
              simp [Ne.symm hij]
          rw [hsub]
          refine List.length_filter_lt_length_iff_exists.2 ⟨i, ?_, by simp⟩
          simp only [List.mem_filter, List.mem_range]
          refine ⟨hlt, ?_⟩
          have : listed.getD i false = false := by simpa [Lof] using hnL
          rw [this]; rfl
        omega

end
end Go.Proofs.YtjmldlknegbimaaGreatDoor.Sx

/- Code at abstract values is sound; contracts out of bodies. Own library, part 14. -/
set_option linter.unusedVariables false
set_option linter.unusedSimpArgs false
namespace Go.Proofs.YtjmldlknegbimaaGreatDoor.Sx
open Go Go.RowKit

section
variable {P : Program} {G : Gl} {X : Cxt} {nt n0 : Nat} {q : Bool} {ro : Option Nat} {K : Mem} {ι : Nat → Pl} {w : World} {e : Env} {H : List HO}

theorem draw_sound (hm : P.follows .mixedOrders = true) {id : Nat} {ops : Array Oper} (hd : ∀ (j : Nat) (o' : Oper) (t : Tmp), ops[j]? = some o' → o'.dst = some t → t < nt) {Q : Exit → Env → List HO → Prop} {a : Act}
    (h : trW P G ops ops.toList [] (fun cs e H => drawOk ops cs = true ∧ Q .normal e H) e H) (hsr : SR X K ι H w) (hG : GOk K G) (he : REnv q K ι H.length nt e a) : (Code.region id ops true).wpIn (FR ro) 0 P (Holds X G q nt Q) a w := by
  obtain ⟨env, Hs, val, cl, h1, h2, h3, h4, h5⟩ := trW_ran ops _ ops.toList 0 [] e H (by simp) (by simp) h
  have s : Setup P G ops e H ([] ++ (List.range' 0 ops.toList.length).map cl) env Hs val cl := {
    e0 := h1
    h0 := h2
    ran := fun i hi => h3 i (Nat.zero_le _) hi
    hcs := fun i hi => by simp [List.getD_eq_getElem?_getD, hi]
    facts := drawOk_facts h4 }
  refine wpIn_region_any hm ?_
  refine wpAny_mid (X := X) s hd (Q1 := Holds X G q nt Q) (fun a w K ι g1 g2 g3 => ⟨_, _, K, ι, h5, g1, g2, g3⟩) _ _ a w.drew (by simp) ?_ ?_
  · refine Nat.le_trans (List.length_filter_le _ _) (by simp)
  · have hL : Lof (Array.replicate ops.size false) = fun _ => False := by
      funext i
      simp only [Lof, eq_iff_iff, iff_false, Array.getD_eq_getD_getElem?, Array.getElem?_replicate]
      split <;> simp
    refine ⟨fun i o _ hi => by rw [hL] at hi; exact hi.elim, K, ι, 0, Nat.zero_le _, fun j hj => by omega, fun j _ _ _ hj => by rw [hL] at hj; exact hj, by rw [h2]; exact hsr.drew, hG, ?_⟩
    rw [h2]
    have : envL ops e val (Lof (Array.replicate ops.size false)) = e := by
      funext t
      rw [envL_none]
      intro i hi
      rw [hL] at hi; exact hi.elim
    rw [this]
    exact he

theorem wp_loop_ind {F : Fence} {n' : Nat} {c : Code} {Q : Exit → Act → World → Prop} (J : Nat → Act → World → Prop)
    (round : ∀ n a w, J n a w → c.wpIn F n' P (Exit.then (fun a' w' => ∃ m, m < n ∧ J m a' w') Q) a w) {n : Nat} {a : Act} {w : World} (h0 : J n a w) : (Code.loop c).wpIn F n' P Q a w := by
  intro b k cs hro hb hr
  have key : ∀ n a w, J n a w → ∃ e a' w', Q e a' w' ∧ ArrivesIn (Machine.fenced P F) P (lone (b.atR a (.code c :: .inLoop c :: k)) cs w) b k cs e a' w' := by
    intro n
    induction n using Nat.strongRecOn with
    | _ n ih =>
      intro a w hJ
      obtain ⟨e, a₁, w₁, hq, harr⟩ := round n a w hJ b (.inLoop c :: k) cs hro hb hr
      cases e with
      | normal =>
        obtain ⟨m, hlt, hJ₁⟩ := hq
        obtain ⟨e₂, a₂, w₂, hq₂, harr₂⟩ := ih m hlt a₁ w₁ hJ₁
        exact ⟨e₂, a₂, w₂, hq₂, .of_steps (StepsIn.trans harr (.one (fenced_calm hb hr rfl) stepR_inLoop)) harr₂⟩
      | exit id => exact ⟨_, a₁, w₁, hq, .pass (x := .inLoop c) rfl (fun _ _ => .inl (by simp)) harr⟩
      | goto l => exact ⟨_, a₁, w₁, hq, .pass (x := .inLoop c) rfl (fun _ _ => .inl (by simp)) harr⟩
      | ret => exact ⟨_, a₁, w₁, hq, .pass (x := .inLoop c) rfl (fun _ _ => .inl (by simp)) harr⟩
      | panic ch => exact ⟨_, a₁, w₁, hq, .pass (x := .inLoop c) rfl (fun _ _ => .inl (by simp)) harr⟩
      | outgrown => exact ⟨_, a₁, w₁, hq, .pass (x := .inLoop c) rfl (fun _ _ => .inl (by simp)) harr⟩
  obtain ⟨e, a', w', hq, harr⟩ := key n a w h0
  exact ⟨e, a', w', hq, .of_steps (.one (fenced_calm hb hr rfl) stepR_loop) harr⟩

theorem Weak.sound {e' : Env} {H' : List HO} {a : Act} (hw : Weak n0 e H e' H') (hn : X.n0 = n0) (hsr : SR X K ι H w) (he : REnv q K ι H.length nt e a) : SR X K ι H' w ∧ REnv q K ι H'.length nt e' a := by
  have hget : ∀ (i : Nat) (q : HO), H'[i]? = some q → q = .dead ∨ (H[i]? = some q ∧ (∀ cs, q = .box cs → AV.ltL H'.length cs = true) ∧ ∀ st vals ps assign body, q = .loop st vals ps assign body → ltAll H'.length vals = true) := fun i q hq => by
    have hi := (List.getElem?_eq_some_iff.1 hq).1
    rcases hw.obj i hi with h | ⟨h1, h2⟩
    · rw [h] at hq; simp at hq; exact .inl hq.symm
    · rw [hq] at h1; exact .inr ⟨h1.symm, fun cs hcs => h2.1 cs (by rw [← h1, hcs]), fun st vals ps assign body hc => h2.2 st vals ps assign body (by rw [← h1, hc])⟩
  refine ⟨{ hsr with n0 := by rw [hn]; exact hw.len, obj := ?_, sep := ?_ }, ⟨?_, he.plain, he.room, he.size, fun t => ?_⟩⟩
  · intro i q hq
    rcases hget i q hq with rfl | ⟨h1, h2⟩
    · trivial
    · have := hsr.obj i q h1
      cases q with
      | box cs =>
        obtain ⟨g1, vs, ty, fz, g2, g3, g4, g5, g6⟩ := this
        exact ⟨g1, vs, ty, fz, g2, g3, g4, fun j hj => (g5 j hj).lt (AV.ltL_get (h2.1 cs rfl) j hj), g6⟩
      | tok sz m => exact this
      | dead => trivial
      | mp es => exact this
      | loop st vals ps assign body =>
        obtain ⟨g1, fn, tmps, D, g2, g3, g4⟩ := this
        exact ⟨g1, fn, tmps, D, g2, g3, fun p hp => (g4 p hp).lt (ltAll_mem (h2.2 _ _ _ _ _ rfl) p hp)⟩
      | dfrAt D => exact this
      | bld T e l => exact this
  · intro i j a b k ha hb oa ob
    rcases hget i a ha with rfl | ⟨h1, _⟩
    · exact oa.elim
    · rcases hget j b hb with rfl | ⟨h2, _⟩
      · exact ob.elim
      · exact hsr.sep i j a b k h1 h2 oa ob
  · rcases hw.env dSlot with ⟨h, h'⟩ | ⟨h1, h2⟩
    · rw [he.defers, h]
      cases hv : e dSlot <;> first | rfl | exact absurd hv (h' _)
    · rw [he.defers, h1]
  · rcases hw.env t with ⟨h, _⟩ | ⟨h1, h2⟩
    · rw [h]; exact .junk _
    · rw [h1]; exact (he.rel t).lt h2

theorem Ghost.sound {e' : Env} {H' : List HO} {a : Act} (h : Ghost e H e' H') : ∀ {ι : Nat → Pl}, SR X K ι H w → REnv q K ι H.length nt e a → ∃ ι', SR X K ι' H' w ∧ REnv q K ι' H'.length nt e' a := by
  induction h with
  | refl e H => intro ι h1 h2; exact ⟨ι, h1, h2⟩
  | step e H t st es z e' H' h hst _ ih =>
    intro ι h1 h2
    have hr := h2.rel t
    rw [h] at hr
    obtain ⟨p, g1, g2, g3⟩ := h1.ghostTok z hst hr.get
    refine ih g1 ⟨?_, h2.plain, h2.room, h2.size, fun u => ?_⟩
    · rw [h2.defers]
      unfold upd
      split
      · rename_i hu; rw [hu, h]; rfl
      · rfl
    have hlen : (H ++ [HO.tok z es.length]).length = H.length + 1 := by simp
    rw [hlen]
    unfold upd
    split
    · rename_i hu; subst hu; exact g2
    · exact (h2.rel u).mono (Mem.le_refl K) (by omega) g3

/-! A range over a function -/
theorem noRange_two {c d : Code} (h : noRange (.seq c d) = true) : noRange c = true ∧ noRange d = true := by simpa [noRange] using h
theorem noRange_cond {v : Operand} {c d : Code} (h : noRange (.cond v c d) = true) : noRange c = true ∧ noRange d = true := by simpa [noRange] using h

theorem place_self (ι : Nat → Pl) (i : Nat) : place ι i (ι i) = ι := by
  funext j
  unfold place
  split
  · rename_i h; rw [h]
  · rfl

def notCells : Obj → Bool
  | .cells .. => false
  | _ => true
/-- An object that is no cells is turned. -/
theorem SR.putObj {id : Nat} {o0 o1 : HO} {ob o' : Obj} (h : SR X K ι H w) (hid : H[id]? = some o0) (hown : owns o0 (ι id) (ι id).block) (hB : X.w0.heap.size ≤ (ι id).block) (hob : w.heap[(ι id).block]? = some ob) (hnc : notCells ob = true)
    (ho : objOk K ι H.length (w.putObj (ι id).block o') X.w0.heap.size (ι id) o1) (hs : ∀ b, owns o1 (ι id) b → b = (ι id).block) : SR X K ι (H.set id o1) (w.putObj (ι id).block o') := by
  have hag : Agree K (w.putObj (ι id).block o') := fun a v e => by
    have hw := h.agree a v e
    have hne : a.block ≠ (ι id).block := by
      intro hc
      unfold World.cell? at hw
      rw [hc, hob] at hw
      cases ob <;> first | (simp [notCells] at hnc; done) | (simp at hw; done)
    unfold World.cell? at hw ⊢
    rw [World.putObj_heap_other hne]
    exact hw
  have hbe : Below X.w0.heap.size X.w0 (w.putObj (ι id).block o') := h.below.trans ⟨rfl, rfl, rfl, by simp, fun k hk => World.putObj_heap_other (by omega)⟩
  have := (h.set hid (ι id) o1 (Mem.le_refl K) hag hbe h.kold ⟨rfl, Nat.le_refl _, fun _ => rfl⟩
    (fun i q hne hq => objOk.putMap (h.obj i q hq) (fun hc => hne (h.sep i id q o0 _ hq hid hc hown)))
    (by rw [place_self]; exact ho) (fun b hb i q hne hq hc => hne (h.sep i id q o0 _ hq hid hc (by rw [hs b hb]; exact hown)))).1
  rwa [place_self] at this

/-- The record, and what it may be turned into. -/
theorem SR.loopAt {id : Nat} {st : LS} {vals : List (Nat × AV)} {ps : List Tmp} {assign body : Code} (h : SR X K ι H w) (hid : H[id]? = some (.loop st vals ps assign body)) :
    ∃ rec : Loop, w.heap[(ι id).block]? = some (.loop rec) ∧ rec.state = st.st ∧ rec.pending = st.pend ∧ rec.params = ⟨ps⟩ ∧ rec.assign = assign ∧ rec.body = body ∧ lpD rec.tmps.size ps assign body ∧
      (∀ p ∈ vals, RelA K ι H.length p.2 (rec.tmps.getD p.1 undef)) ∧
      (∀ st' : LS, SR X K ι (H.set id (.loop st' vals ps assign body)) (w.putObj (ι id).block (.loop { rec with state := st'.st, pending := st'.pend }))) ∧
      ∀ o', SR X K ι (H.set id .dead) (w.putObj (ι id).block o') := by
  obtain ⟨h1, fn, tmps, D, h2, h3, h4⟩ := h.obj id _ hid
  refine ⟨_, h2, rfl, rfl, rfl, rfl, rfl, h3, h4, fun st' => ?_, fun o' => ?_⟩
  · exact h.putObj hid rfl h1 h2 rfl ⟨h1, fn, tmps, D, World.putObj_heap_same (heap_lt h2), h3, h4⟩ (fun b hb => hb)
  · exact h.putObj hid rfl h1 h2 rfl trivial (fun b hb => hb.elim)

theorem range_sound {g : Operand} {ps : Array Tmp} {assign body : Code} {Q : Exit → Env → List HO → Prop} {a : Act} (hd : dstOk nt (.rangeFunc g ps assign body) = true)
    (h : ∃ (f : FuncId) (caps : List AV) (vals : List (Nat × AV)), ev G e g = .clo f caps ∧ At vals e ∧ (∀ p ∈ vals, p.1 ≠ dSlot) ∧ dfrs (e dSlot) = [] ∧
      ∀ D, ∃ r H', Fn P G f (.yld (H.length + 1) :: caps) (H ++ [.dfrAt D, .loop .ready vals ps.toList assign body]) r H' ∧
        ((H'[H.length + 1]? = some (.loop .ready vals ps.toList assign body) ∧ Q .normal (upd e dSlot (.dfr [D])) (H'.set (H.length + 1) .dead)) ∨
         (H'[H.length + 1]? = some (.loop (.done .ret) vals ps.toList assign body) ∧ Q .ret (upd e dSlot (.dfr [D])) (H'.set (H.length + 1) .dead)) ∨
         ∃ id, H'[H.length + 1]? = some (.loop (.done (.exit id)) vals ps.toList assign body) ∧ Q (.exit id) (upd e dSlot (.dfr [D])) (H'.set (H.length + 1) .dead)))
    (hsr : SR X K ι H w) (hG : GOk K G) (he : REnv false K ι H.length nt e a) : (Code.rangeFunc g ps assign body).wpIn (FR none) 0 P (Holds X G false nt Q) a w := by
  obtain ⟨f, caps, vals, hev, hat, hvd, hdf, hrest⟩ := h
  obtain ⟨r, H', ⟨hok, hcalls⟩, hcases⟩ := hrest w.heap.size
  refine wpIn_rangeFunc ?_
  intro fn hfn
  have hclo := ev_rel (G := G) hG he.rel g
  rw [hev] at hclo
  generalize hg : a.eval g = gv at hclo
  cases hclo with
  | clo _ _ lb hlb hrb =>
    simp only [dstOk, Bool.and_eq_true, List.all_eq_true, decide_eq_true_eq] at hd
    -- the two new objects
    have hx1 : SR X K ι H (w.alloc (.deferred (some []))) := hsr.ext ⟨Mem.le_refl K, fun _ _ => rfl, agree_alloc hsr.agree _, (Below.refl _ _).alloc (Nat.le_refl _) _⟩
    have hp1 := hsr.push hx1 ⟨w.heap.size, undef, 0, 0⟩ (.dfrAt w.heap.size) ⟨hsr.size, rfl, World.alloc_heap_new w _⟩ (fun b hb i h' hi ho => by
      simp only [owns] at hb; subst hb
      have := (owns_lt (hsr.obj i h' hi) ho).1
      omega)
    generalize hι1 : place ι H.length ⟨w.heap.size, undef, 0, 0⟩ = ι1 at hp1
    have hle1 : Pls.le H.length ι ι1 := by rw [← hι1]; exact place_le _ _ _
    generalize hW0 : w.alloc (.deferred (some [])) = W0 at hp1
    have hsz0 : W0.heap.size = w.heap.size + 1 := by rw [← hW0]; simp
    have hx2 : ∀ o, SR X K ι1 (H ++ [.dfrAt w.heap.size]) (W0.alloc o) := fun o => hp1.ext ⟨Mem.le_refl K, fun _ _ => rfl, agree_alloc hp1.agree _, (Below.refl _ _).alloc (Nat.le_refl _) _⟩
    have hp2 := hp1.push (hx2 (.loop { state := .ready, pending := none, fn, tmps := a.tmps, params := ps, assign, body, defers := w.heap.size })) ⟨W0.heap.size, undef, 0, 0⟩ (.loop .ready vals ps.toList assign body)
      ⟨hp1.size, fn, a.tmps, w.heap.size, World.alloc_heap_new W0 _, by rw [he.size]; exact ⟨hd.1.2, hd.2, hd.1.1, he.room⟩, fun p hp => by
        have := he.rel p.1
        rw [At_mem hat p hp] at this
        refine (this.mono (Mem.le_refl K) ?_ (Pls.le_trans ?_ hle1 (place_le _ (H ++ [HO.dfrAt w.heap.size]).length _)))
        · simp; omega
        · simp⟩
      (fun b hb i h' hi ho => by
        simp only [owns] at hb; subst hb
        have := (owns_lt (hp1.obj i h' hi) ho).1
        omega)
    have hlen1 : (H ++ [HO.dfrAt w.heap.size]).length = H.length + 1 := by simp
    rw [hlen1] at hp2
    generalize hι2 : place ι1 (H.length + 1) ⟨W0.heap.size, undef, 0, 0⟩ = ι2 at hp2
    have hle2 : Pls.le (H.length + 1) ι1 ι2 := by rw [← hι2]; exact place_le _ _ _
    have hl2 : (ι2 (H.length + 1)).block = w.heap.size + 1 := by rw [← hι2, place_same, hsz0]
    generalize hW1 : W0.alloc (.loop { state := .ready, pending := none, fn, tmps := a.tmps, params := ps, assign, body, defers := w.heap.size }) = W1 at hp2
    have hHH : H ++ [HO.dfrAt w.heap.size] ++ [HO.loop .ready vals ps.toList assign body] = H ++ [.dfrAt w.heap.size, .loop .ready vals ps.toList assign body] := by simp
    rw [hHH] at hp2
    have hleι : Pls.le H.length ι ι2 := Pls.le_trans (by omega) hle1 hle2
    refine ⟨w.heap.size + 1, [{ target := .collected w.heap.size, args := #[] }], W1, { target := .fn (.func f) lb, args := #[.func (.yield (w.heap.size + 1)) #[] #[]] }, W1, f,
      #[.func (.yield (w.heap.size + 1)) #[] #[]] ++ lb, W1, ?_, ?_, fun _ _ => trivial, ?_, fun h => by simp at h, ?_⟩
    · rw [← hW1, ← hW0]; exact run_enterLoop_outer _ _ _ _ _
    · simp only [resolve, hg]
      simp [go_sem]
    · simp only [invoke, run_callFunc_enter hok]
    · have wide : ∀ {f : FuncId} {args : Array Value} {w : World} {R : Ending → World → Prop}, Calls P f args w R → CallsIn (FR none) (0 - 1) P f args w R := fun h => callsIn_wide.2 h
      refine wide ?_
      have hsz : (#[Value.func (.yield (w.heap.size + 1)) #[] #[]] ++ lb).size = (AV.yld (H.length + 1) :: caps).length := by
        rw [Array.size_append, hlb, List.length_cons]; exact Nat.add_comm _ _
      have hargs : ∀ i, i < (AV.yld (H.length + 1) :: caps).length → RelA K ι2 (H ++ [HO.dfrAt w.heap.size, .loop .ready vals ps.toList assign body]).length ((AV.yld (H.length + 1) :: caps).getD i .junk) ((#[Value.func (.yield (w.heap.size + 1)) #[] #[]] ++ lb).getD i undef) := by
        intro i hi
        cases i with
        | zero =>
          have := RelA.yld (K := K) (ι := ι2) (n := (H ++ [HO.dfrAt w.heap.size, .loop .ready vals ps.toList assign body]).length) (H.length + 1) (by simp)
          rw [hl2] at this
          simpa [Array.getD, show 0 < 1 + lb.size by omega] using this
        | succ i =>
          have hi' : i < caps.length := by simpa using hi
          have := (hrb i hi').mono (K' := K) (ι' := ι2) (n' := (H ++ [HO.dfrAt w.heap.size, .loop .ready vals ps.toList assign body]).length) (Mem.le_refl K) (by simp) hleι
          have e2 : (#[Value.func (.yield (w.heap.size + 1)) #[] #[]] ++ lb).getD (i + 1) undef = lb.getD i undef := by
            simp only [Array.getD_eq_getD_getElem?]
            rw [Array.getElem?_append_right (by simp)]
            simp
          rw [e2]
          simpa using this
      have hcall := hcalls X K ι2 W1 (#[.func (.yield (w.heap.size + 1)) #[] #[]] ++ lb) hp2 hG hsz hargs
      refine hcall.mono ?_
      rintro en w3 ⟨v, rfl, K', ι', s1, s2, s3, s4, s5⟩
      have hlenH : (H ++ [HO.dfrAt w.heap.size, .loop .ready vals ps.toList assign body]).length = H.length + 2 := by simp
      rw [hlenH] at s4 s5
      have hblk : (ι' (H.length + 1)).block = w.heap.size + 1 := by rw [(s4 (H.length + 1) (by omega)).1, hl2]
      have hleF : Pls.le H.length ι ι' := Pls.le_trans (by omega) hleι s4
      have henv : REnv false K' ι' (H'.set (H.length + 1) .dead).length nt (upd e dSlot (.dfr [w.heap.size])) { a with defers := [{ target := .collected w.heap.size, args := #[] }] ++ a.defers } := by
        refine ⟨?_, fun hc => by contradiction, he.room, he.size, fun t => ?_⟩
        · rw [he.defers, hdf]; simp [upd, dfrs]
        · unfold upd
          split
          · exact .dfr _ _
          · exact (he.rel t).mono s3 (by simp; omega) hleF
      have key : ∀ (st : LS), st.st ≠ .busy → H'[H.length + 1]? = some (.loop st vals ps.toList assign body) → ∃ w4, (Instr.endLoop (w.heap.size + 1)).run P w3 = .ok st.pend w4 ∧ SR X K' ι' (H'.set (H.length + 1) .dead) w4 := fun st hb hH => by
        obtain ⟨rec, g1, g2, g3, _, _, _, _, _, _, g4⟩ := s1.loopAt hH
        rw [hblk] at g1 g4
        refine ⟨_, by rw [← g3]; exact run_endLoop g1 (by rw [g2]; exact hb), g4 _⟩
      rcases hcases with ⟨hH, hQ⟩ | ⟨hH, hQ⟩ | ⟨id, hH, hQ⟩
      · obtain ⟨w4, q1, q2⟩ := key _ (by simp [LS.st]) hH
        exact ⟨_, w4, q1, ⟨_, _, K', ι', hQ, q2, hG.mono s3, henv⟩⟩
      · obtain ⟨w4, q1, q2⟩ := key _ (by simp [LS.st]) hH
        exact ⟨_, w4, q1, wpIn_ret ⟨_, _, K', ι', hQ, q2, hG.mono s3, henv⟩⟩
      · obtain ⟨w4, q1, q2⟩ := key _ (by simp [LS.st]) hH
        exact ⟨_, w4, q1, wpIn_exit ⟨_, _, K', ι', hQ, q2, hG.mono s3, henv⟩⟩

theorem wpc_sound (hm : P.follows .mixedOrders = true) : ∀ (c : Code) (Q : Exit → Env → List HO → Prop) (e : Env) (H : List HO), dstOk nt c = true → ((q = true ∨ ro ≠ none) → noRange c = true) → wpc P G n0 c Q e H → AWP P G q ro nt n0 c Q e H := by
  intro c
  induction c with
  | skip => intro Q e H _ _ h X K ι a w _ hsr hG he; exact wpIn_skip ⟨e, H, K, ι, h, hsr, hG, he⟩
  | label l => intro Q e H _ _ h X K ι a w _ hsr hG he; exact wpIn_label ⟨e, H, K, ι, h, hsr, hG, he⟩
  | ret => intro Q e H _ _ h X K ι a w _ hsr hG he; exact wpIn_ret ⟨e, H, K, ι, h, hsr, hG, he⟩
  | exit id => intro Q e H _ _ h X K ι a w _ hsr hG he; exact wpIn_exit ⟨e, H, K, ι, h, hsr, hG, he⟩
  | seq x y ihx ihy =>
    intro Q e H hd hnr h X K ι a w hn hsr hG he
    simp only [dstOk, Bool.and_eq_true] at hd
    rw [wpc] at h
    refine wpIn_seq (wpIn_mono (ihx _ e H hd.1 (fun hc => (noRange_two (hnr hc)).1) h X K ι a w hn hsr hG he) ?_)
    rintro en a' w' ⟨e', H', K', ι', hq, g1, g2, g3⟩
    cases en with
    | normal => exact ihy Q e' H' hd.2 (fun hc => (noRange_two (hnr hc)).2) hq X K' ι' a' w' hn g1 g2 g3
    | exit id => exact ⟨e', H', K', ι', hq, g1, g2, g3⟩
    | goto l => exact ⟨e', H', K', ι', hq, g1, g2, g3⟩
    | ret => exact ⟨e', H', K', ι', hq, g1, g2, g3⟩
    | panic ch => exact ⟨e', H', K', ι', hq, g1, g2, g3⟩
    | outgrown => exact ⟨e', H', K', ι', hq, g1, g2, g3⟩
  | cond c x y ihx ihy =>
    intro Q e H hd hnr h X K ι a w hn hsr hG he
    simp only [dstOk, Bool.and_eq_true] at hd
    rw [wpc] at h
    split at h
    · rename_i t hc
      have hr := ev_rel (G := G) hG he.rel c
      rw [hc] at hr
      have hg := hr.get
      generalize hv : a.eval c = v at hg
      cases hg
      cases t with
      | true => exact wpIn_cond_true hv (ihx Q e H hd.1 (fun hc => (noRange_cond (hnr hc)).1) h X K ι a w hn hsr hG he)
      | false => exact wpIn_cond_false hv (ihy Q e H hd.2 (fun hc => (noRange_cond (hnr hc)).2) h X K ι a w hn hsr hG he)
    · exact h.elim
  | block id x ih =>
    intro Q e H hd hnr h X K ι a w hn hsr hG he
    simp only [dstOk] at hd
    rw [wpc] at h
    refine wpIn_block (wpIn_mono (ih _ e H hd (fun hc => by have := hnr hc; simpa only [noRange] using this) h X K ι a w hn hsr hG he) ?_)
    rintro en a' w' ⟨e', H', K', ι', hq, g1, g2, g3⟩
    cases en with
    | normal => exact ⟨e', H', K', ι', hq, g1, g2, g3⟩
    | exit id' =>
      simp only [Exit.inBlock]
      simp only at hq
      split
      · rename_i hid; rw [if_pos hid] at hq; exact ⟨e', H', K', ι', hq, g1, g2, g3⟩
      · rename_i hid; rw [if_neg hid] at hq; exact ⟨e', H', K', ι', hq, g1, g2, g3⟩
    | goto l => exact ⟨e', H', K', ι', hq, g1, g2, g3⟩
    | ret => exact ⟨e', H', K', ι', hq, g1, g2, g3⟩
    | panic ch => exact ⟨e', H', K', ι', hq, g1, g2, g3⟩
    | outgrown => exact ⟨e', H', K', ι', hq, g1, g2, g3⟩
  | loop x ih =>
    intro Q e H hd hnr h X K ι a w hn hsr hG he
    simp only [dstOk] at hd
    rw [wpc] at h
    obtain ⟨e0, H0, I, n, hgh, h0, hround⟩ := h
    obtain ⟨ι, hsr, he⟩ := hgh.sound hsr he
    refine wp_loop_ind (fun n a w => ∃ e H K ι, I n e H ∧ SR X K ι H w ∧ GOk K G ∧ REnv q K ι H.length nt e a) ?_ ⟨e0, H0, K, ι, h0, hsr, hG, he⟩
    rintro n a w ⟨e, H, K, ι, hI, hsr, hG, he⟩
    refine wpIn_mono (ih _ e H hd (fun hc => by have := hnr hc; simpa only [noRange] using this) (hround n e H hI) X K ι a w hn hsr hG he) ?_
    rintro en a' w' ⟨e', H', K', ι', hq, g1, g2, g3⟩
    cases en with
    | normal =>
      obtain ⟨m, e3, H3, hlt, hweak, hI3⟩ := hq
      obtain ⟨q1, q2⟩ := hweak.sound hn g1 g3
      exact ⟨m, hlt, e3, H3, K', ι', hI3, q1, g2, q2⟩
    | exit id => exact ⟨e', H', K', ι', hq, g1, g2, g3⟩
    | goto l => exact ⟨e', H', K', ι', hq, g1, g2, g3⟩
    | ret => exact ⟨e', H', K', ι', hq, g1, g2, g3⟩
    | panic ch => exact ⟨e', H', K', ι', hq, g1, g2, g3⟩
    | outgrown => exact ⟨e', H', K', ι', hq, g1, g2, g3⟩
  | region id ops draw =>
    intro Q e H hd hnr h X K ι a w hn hsr hG he
    have hdo : ∀ (j : Nat) (o' : Oper) (t : Tmp), ops[j]? = some o' → o'.dst = some t → t < nt := by
      intro j o' t hj ht
      simp only [dstOk, List.all_eq_true] at hd
      have := hd o' (by simpa using Array.mem_of_getElem? hj)
      rw [ht] at this
      simpa using this
    cases draw with
    | true =>
      rw [wpc] at h
      exact draw_sound hm hdo h hsr hG he
    | false =>
      rw [wpc] at h
      refine wpIn_region ?_
      have := opsW_sound (ro := ro) (X := X) ops hdo ops.toList 0 _ e H K ι a w (by simp) h hsr hG he (Holds X G q nt Q) (fun e H K ι a w hq g1 g2 g3 => ⟨e, H, K, ι, hq, g1, g2, g3⟩)
      simpa [List.range_eq_range'] using this
  | rangeFunc g ps assign body =>
    intro Q e H hd hnr h X K ι a w hn hsr hG he
    have hq : q = false := by
      cases hc : q with
      | false => rfl
      | true => have := hnr (.inl hc); simp [noRange] at this
    have hro : ro = none := by
      cases hc : ro with
      | none => rfl
      | some l => have := hnr (.inr (by simp [hc])); simp [noRange] at this
    subst hq hro
    rw [wpc] at h
    exact range_sound hd h hsr hG he
  | scope x => intro Q e H _ _ h; simp only [wpc] at h
  | goto l => intro Q e H _ _ h; simp only [wpc] at h
  | refuse why => intro Q e H _ _ h; simp only [wpc] at h

/-! Rounds -/
theorem envOf_rel {n : Nat} {tmps : Array Value} : ∀ {vals : List (Nat × AV)}, (∀ p ∈ vals, RelA K ι n p.2 (tmps.getD p.1 undef)) → ∀ t, RelA K ι n (envOf vals t) (tmps.getD t undef)
  | [], _, t => .junk _
  | (u, v) :: r, h, t => by
    unfold envOf
    split
    · rename_i hu; subst hu; exact h (t, v) (by simp)
    · exact envOf_rel (fun p hp => h p (by simp [hp])) t

theorem envOf_other {t : Nat} : ∀ {vals : List (Nat × AV)}, (∀ p ∈ vals, p.1 ≠ t) → envOf vals t = .junk
  | [], _ => rfl
  | (u, v) :: r, h => by
    unfold envOf
    rw [if_neg (fun hc => h (u, v) (by simp) hc.symm)]
    exact envOf_other fun p hp => h p (by simp [hp])

theorem putsA_other {t : Nat} : ∀ {ps : List Tmp} {args : List AV} {e : Env}, (∀ d ∈ ps, d ≠ t) → putsA ps args e t = e t
  | [], args, e, _ => by cases args <;> rfl
  | d :: ps, [], e, _ => rfl
  | d :: ps, x :: args, e, h => by
    unfold putsA
    rw [putsA_other (fun d' hd' => h d' (by simp [hd'])), if_neg (fun hc => h d (by simp) hc.symm)]

theorem puts_rel {n : Nat} : ∀ {ps : List Tmp} {args : List AV} {vs : List Value} {tmps : Array Value} {e : Env}, vs.length = args.length → (∀ d ∈ ps, d < tmps.size) → (∀ t, RelA K ι n (e t) (tmps.getD t undef)) →
    (∀ i, i < args.length → RelA K ι n (args.getD i .junk) (vs.getD i undef)) →
    (((ps.zip vs).foldl (fun (tmps : Array Value) (x : Tmp × Value) => tmps.setIfInBounds x.1 x.2) tmps).size = tmps.size) ∧
    ∀ t, RelA K ι n (putsA ps args e t) (((ps.zip vs).foldl (fun (tmps : Array Value) (x : Tmp × Value) => tmps.setIfInBounds x.1 x.2) tmps).getD t undef)
  | [], args, vs, tmps, e, _, _, h, _ => by
    refine ⟨rfl, fun t => ?_⟩
    have : putsA [] args e = e := by cases args <;> rfl
    rw [this]; exact h t
  | d :: ps, [], vs, tmps, e, hl, _, h, _ => by
    obtain rfl : vs = [] := List.length_eq_zero_iff.1 (by simpa using hl)
    exact ⟨rfl, fun t => h t⟩
  | d :: ps, x :: args, [], tmps, e, hl, _, h, _ => by simp at hl
  | d :: ps, x :: args, v :: vs, tmps, e, hl, hd, h, hr => by
    have hdt := hd d (by simp)
    have ih := puts_rel (ps := ps) (args := args) (vs := vs) (tmps := tmps.setIfInBounds d v) (e := fun u => if u = d then x else e u) (by simpa using hl) (fun d' hd' => by simpa using hd d' (by simp [hd'])) (fun t => by
      rw [getD_set_tmp _ _ _ _ hdt]
      split
      · simpa using hr 0 (by simp)
      · exact h t) (fun i hi => by simpa using hr (i + 1) (by simpa using hi))
    simp only [List.zip_cons_cons, List.foldl_cons]
    refine ⟨by rw [ih.1]; simp, fun t => ?_⟩
    have := ih.2 t
    simpa only [putsA] using this

/-- The end of a round. -/
def roundFin (id : Nat) (vals : List (Nat × AV)) (ps : List Tmp) (assign body : Code) (r : AV) (H' : List HO) : Exit → Env → List HO → Prop := fun x e H2 =>
  match x with
  | .normal => r = .d (.bool true) ∧ H2[id]? = some (.loop .busy vals ps assign body) ∧ H' = H2.set id (.loop .ready vals ps assign body)
  | .ret => r = .d (.bool false) ∧ H2[id]? = some (.loop .busy vals ps assign body) ∧ H' = H2.set id (.loop (.done .ret) vals ps assign body)
  | .exit j => r = .d (.bool false) ∧ H2[id]? = some (.loop .busy vals ps assign body) ∧ H' = H2.set id (.loop (.done (.exit j)) vals ps assign body)
  | _ => False

/-- What stands behind the assignments of a round. -/
def roundMid (P : Program) (G : Gl) (n0 : Nat) (id : Nat) (vals : List (Nat × AV)) (ps : List Tmp) (assign body : Code) (r : AV) (H' : List HO) : Exit → Env → List HO → Prop := fun x e H1 =>
  match x with
  | .normal => H1[id]? = some (.loop .ready vals ps assign body) ∧ wpc P G n0 body (roundFin id vals ps assign body r H') e (H1.set id (.loop .busy vals ps assign body))
  | _ => False

theorem YFn.of_body (hm : P.follows .mixedOrders = true) {id : Nat} {vals : List (Nat × AV)} {ps : List Tmp} {assign body : Code} {args : List AV} {r : AV} {H' : List HO} (hid : H[id]? = some (.loop .ready vals ps assign body)) (hl : args.length = ps.length)
    (hv : ∀ p ∈ vals, p.1 ≠ dSlot) (ha : noRange assign = true) (hb : noRange body = true) (h : wpc P G H.length assign (roundMid P G H.length id vals ps assign body r H') (putsA ps args (envOf vals)) H) : YFn P G id args H r H' := by
  have hidl : id < H.length := (List.getElem?_eq_some_iff.1 hid).1
  refine ⟨hidl, fun X K ι w vs hsr hG hvl hvr => ?_⟩
  obtain ⟨rec, g1, g2, g3, g4, g5, g6, ⟨d1, d2, d3, d4⟩, g8, _, _⟩ := hsr.loopAt hid
  have hy := run_yield (P := P) (args := vs) g1 (by rw [g4, hvl, hl]; simp)
  refine ⟨_, _, _, _, hy, ?_⟩
  rw [g4, g5, g6]
  have hfold : ((⟨ps⟩ : Array Tmp).zip vs).foldl (fun (tmps : Array Value) (x : Tmp × Value) => tmps.setIfInBounds x.1 x.2) rec.tmps = (ps.zip vs.toList).foldl (fun (tmps : Array Value) (x : Tmp × Value) => tmps.setIfInBounds x.1 x.2) rec.tmps := by
    rw [← Array.foldl_toList, Array.toList_zip]
  obtain ⟨p1, p2⟩ := puts_rel (K := K) (ι := ι) (n := H.length) (ps := ps) (args := args) (vs := vs.toList) (tmps := rec.tmps) (e := envOf vals) (by simpa using hvl) d3 (envOf_rel g8) (fun i hi => by
    have := hvr i hi
    rwa [← getD_toList] at this)
  have hdf : dfrs (putsA ps args (envOf vals) dSlot) = [] := by
    rw [putsA_other (fun d hd hc => by have := d3 d hd; rw [hc] at this; exact absurd d4 (Nat.not_le.2 this)), envOf_other hv]; rfl
  have hsr1 : SR ⟨X.w0, K, ι, H.length⟩ K ι H w := ⟨hsr.agree, hsr.below, Mem.le_refl K, fun _ _ => rfl, Nat.le_refl _, Pls.le_refl _ _, hsr.obj, hsr.sep⟩
  have back : ∀ {K' : Mem} {ι' : Nat → Pl} {H2 : List HO} {w' : World} {v : Value}, SR ⟨X.w0, K, ι, H.length⟩ K' ι' H2 w' → RelA K' ι' H2.length r v → Left X K ι H.length H2 r v w' := fun {K' ι' H2 w' v} s hr =>
    ⟨K', ι', ⟨s.agree, s.below, Mem.le_trans hsr.kle s.kle, fun a ha => by rw [s.kold a ha]; exact hsr.kold a ha, Nat.le_trans hsr.n0 s.n0, Pls.le_trans hsr.n0 hsr.ile s.ile, s.obj, s.sep⟩, hr, s.kle, s.ile, s.n0⟩
  refine roundIn_of_wpIn trivial ?_
  show Code.wpIn (FR (some (ι id).block)) 0 P assign _ _ _
  refine wpIn_mono (wpc_sound (q := true) (ro := some (ι id).block) (nt := rec.tmps.size) hm assign _ _ H d1 (fun _ => ha) h ⟨X.w0, K, ι, H.length⟩ K ι _ w rfl hsr1 hG ⟨by rw [hdf], fun _ => rfl, d4, ?_, ?_⟩) ?_
  · exact (congrArg Array.size hfold).trans p1
  · intro t
    have := p2 t
    rw [← hfold] at this
    exact this
  · rintro en a1 w1 ⟨e1, H1, K1, ι1, hq, s1, s2, s3⟩
    cases en with
    | normal =>
      obtain ⟨hid1, hbody⟩ := hq
      have hblk : (ι1 id).block = (ι id).block := (s1.ile id hidl).1
      obtain ⟨rec1, q1, q2, q3, _, _, _, _, _, q4, _⟩ := s1.loopAt hid1
      have q4 := q4 .busy
      rw [hblk] at q1 q4
      have hrec : ({ rec1 with state := LS.busy.st, pending := LS.busy.pend } : Loop) = { rec1 with state := .busy } := by
        have : rec1.pending = none := q3
        cases rec1
        simp_all [LS.st, LS.pend]
      rw [hrec] at q4
      refine ⟨_, run_beginRound q1 q2, ?_⟩
      show Code.wpIn (FR (some (ι id).block)) 0 P body _ _ _
      refine wpIn_mono (wpc_sound (q := true) (ro := some (ι id).block) (nt := rec.tmps.size) hm body _ _ _ d2 (fun _ => hb) hbody ⟨X.w0, K, ι, H.length⟩ K1 ι1 _ _ rfl q4 s2 (by rw [List.length_set]; exact s3)) ?_
      rintro en a2 w2 ⟨e2, H2, K2, ι2, hq2, t1, t2, t3⟩
      have fin : ∀ (j : Option Code) (st : LS), st.pend = j → st.st = (if j.isNone then .ready else .done) → H2[id]? = some (.loop .busy vals ps assign body) → H' = H2.set id (.loop st vals ps assign body) → r = .d (.bool j.isNone) →
          ∃ v w', (Instr.endRound (ι id).block j).run P w2 = .ok v w' ∧ ∃ u, Ending.returned v = .returned u ∧ Left X K ι H.length H' r u w' := by
        rintro j st hj hst hH rfl rfl
        have hblk2 : (ι2 id).block = (ι id).block := (t1.ile id hidl).1
        obtain ⟨rec2, z1, z2, z3, _, _, _, _, _, z4, _⟩ := t1.loopAt hH
        have z4 := z4 st
        rw [hblk2] at z1 z4
        rw [hj, hst] at z4
        exact ⟨_, _, run_endRound j z1, _, rfl, back z4 (.d _ _ (.bool _))⟩
      cases en with
      | normal =>
        obtain ⟨hr, hH, hH'⟩ := hq2
        exact fin none .ready rfl rfl hH hH' hr
      | ret =>
        obtain ⟨hr, hH, hH'⟩ := hq2
        exact fin (some .ret) (.done .ret) rfl rfl hH hH' hr
      | exit j =>
        obtain ⟨hr, hH, hH'⟩ := hq2
        exact fin (some (.exit j)) (.done (.exit j)) rfl rfl hH hH' hr
      | goto l => exact hq2.elim
      | panic ch => exact hq2.elim
      | outgrown => exact hq2.elim
    | ret => exact hq.elim
    | exit j => exact hq.elim
    | goto l => exact hq.elim
    | panic ch => exact hq.elim
    | outgrown => exact hq.elim

/-! Results -/
def retA (P : Program) (H : List HO) (e : Env) : ResultVar → Option AV
  | .tmp t => some (e t)
  | .cell a ty =>
    match e a with
    | .ptr id off =>
      match H[id]? with
      | some (.box cs) => partA P ty cs off
      | _ => none
    | _ => none

def retL (P : Program) (H : List HO) (e : Env) : List ResultVar → Option (List AV)
  | [] => some []
  | r :: rs =>
    match retA P H e r, retL P H e rs with
    | some x, some xs => some (x :: xs)
    | _, _ => none

def resA (P : Program) (H : List HO) (e : Env) (rs : List ResultVar) : Option AV :=
  match retL P H e rs with
  | some [x] => some x
  | some xs => some (mkTup xs)
  | none => none

def resF (tmps : Array Value) : ResultVar → Sem Value
  | .tmp t => pure (tmps.getD t undef)
  | .cell p t => do loadVar t (← asAddr (tmps.getD p undef))

theorem results_eq (fn : Func) (tmps : Array Value) : results fn tmps = (do
    let vs ← fn.results.mapM (resF tmps)
    pure (if h : vs.size = 1 then vs[0] else .tuple vs)) := by
  have : resF tmps = (fun
    | .tmp t => pure (tmps.getD t undef)
    | .cell a t => do loadVar t (← asAddr (tmps.getD a undef))) := by
    funext r; cases r <;> rfl
  rw [this]
  rfl

theorem retA_sound {a : Act} {r : ResultVar} {x : AV} (h : retA P H e r = some x) (hsr : SR X K ι H w) (he : REnv q K ι H.length nt e a) :
    ∃ v, (resF a.tmps r).run P w = .ok v w ∧ RelA K ι H.length x v := by
  cases r with
  | tmp t =>
    simp only [retA, Option.some.injEq] at h; subst h
    exact ⟨_, rfl, he.rel t⟩
  | cell p ty =>
    simp only [retA] at h
    split at h
    · rename_i id off hp
      split at h
      · rename_i cs hid
        obtain ⟨h1, vs, tyy, fz, h2, h3, h4, h5, h6⟩ := hsr.obj id _ hid
        have hr := he.rel p
        rw [hp] at hr
        simp only [resF]
        generalize a.tmps.getD p undef = v at hr
        cases hr with
        | ptr _ _ hi =>
          obtain ⟨u, hu, hru⟩ := load_sound (P := P) (K := K) (ι := ι) (n := H.length) (a := ⟨(ι id).block, 0, none⟩) (val := fun j => vs.getD j undef) (w := w) h (fun j hj => by
            rw [Addr.add_mk, Nat.zero_add]
            rw [cell_of_row w _ _ vs tyy fz h2]
            simp [Array.getD, h3, hj]) h5
          rw [Addr.add_mk, Nat.zero_add] at hu
          exact ⟨u, by simpa [asAddr] using hu, hru⟩
      · contradiction
    · contradiction

theorem retL_sound {a : Act} : ∀ (rs : List ResultVar) (xs : List AV), retL P H e rs = some xs → SR X K ι H w → REnv q K ι H.length nt e a →
    ∃ vs : List Value, (rs.mapM (resF a.tmps)).run P w = .ok vs w ∧ vs.length = xs.length ∧
      ∀ i, i < xs.length → RelA K ι H.length (xs.getD i .junk) (vs.getD i undef)
  | [], xs, h, _, _ => by
    simp only [retL, Option.some.injEq] at h; subst h
    exact ⟨[], by simp, rfl, fun i hi => by simp at hi⟩
  | r :: rs, xs, h, hsr, he => by
    simp only [retL] at h
    split at h
    · rename_i x ys hx hys
      simp only [Option.some.injEq] at h; subst h
      obtain ⟨v, hv, hr⟩ := retA_sound hx hsr he
      obtain ⟨vs, hvs, hl, hrs⟩ := retL_sound rs ys hys hsr he
      refine ⟨v :: vs, ?_, by simp [hl], fun i hi => ?_⟩
      · simp only [List.mapM_cons, Sem.run_bind, hv, Result.andThen_ok, hvs, Sem.run_pure]
      · cases i with
        | zero => simpa using hr
        | succ i => simpa using hrs i (by simpa using hi)
    · contradiction

theorem resA_sound {a : Act} {fn : Func} {x : AV} (h : resA P H e fn.results.toList = some x) (hsr : SR X K ι H w) (he : REnv q K ι H.length nt e a) :
    ∃ v, (results fn a.tmps).run P w = .ok v w ∧ RelA K ι H.length x v := by
  unfold resA at h
  have key : ∀ xs, retL P H e fn.results.toList = some xs → ∃ vs : Array Value, (fn.results.mapM (resF a.tmps)).run P w = .ok vs w ∧
      vs.size = xs.length ∧ ∀ i, i < xs.length → RelA K ι H.length (xs.getD i .junk) (vs.getD i undef) := fun xs hxs => by
    obtain ⟨vs, hvs, hl, hrs⟩ := retL_sound _ xs hxs hsr he
    refine ⟨vs.toArray, ?_, by simpa using hl, fun i hi => by rw [← getD_toList]; exact hrs i hi⟩
    rw [Array.mapM_eq_mapM_toList]
    simp only [Sem.run_map, hvs, Result.andThen_ok]
  have hres : ∀ (vs : Array Value), (fn.results.mapM (resF a.tmps)).run P w = .ok vs w → (results fn a.tmps).run P w = .ok (if h : vs.size = 1 then vs[0] else .tuple vs) w := fun vs hvs => by
    rw [results_eq]
    simp only [Sem.run_bind, hvs, Result.andThen_ok]
    rfl
  split at h
  · rename_i y hy
    simp only [Option.some.injEq] at h; subst h
    obtain ⟨vs, hvs, hl, hrs⟩ := key _ hy
    simp only [List.length_cons, List.length_nil, Nat.zero_add] at hl
    refine ⟨_, hres vs hvs, ?_⟩
    rw [dif_pos hl]
    have := hrs 0 (by simp)
    simpa [Array.getD, hl] using this
  · rename_i xs hne hxs
    simp only [Option.some.injEq] at h; subst h
    obtain ⟨vs, hvs, hl, hrs⟩ := key _ hxs
    refine ⟨_, hres vs hvs, ?_⟩
    have hn1 : ¬ vs.size = 1 := by
      intro h1
      rw [hl] at h1
      obtain ⟨z, rfl⟩ := List.length_eq_one_iff.1 h1
      exact hne z rfl
    rw [dif_neg hn1]
    exact relA_mkTup hl hrs
  · contradiction

mutual
def retD : AV → Option DV
  | .d x => some (normD x)
  | .tsl _ es => some (.sl .any es)
  | .agg cs => match retDL cs with | some ds => some (.agg ds) | none => none
  | .tup cs => match retDL cs with | some ds => some (.tup ds) | none => none
  | .ptr _ _ => none
  | .bsl _ _ _ _ => none
  | .clo _ _ => none
  | .mp _ => none
  | .yld _ => none
  | .dfr _ => none
  | .junk => none
def retDL : List AV → Option (List DV)
  | [] => some []
  | x :: r => match retD x, retDL r with | some y, some ys => some (y :: ys) | _, _ => none
 end

theorem retDL_get : ∀ {cs : List AV} {ds : List DV}, retDL cs = some ds → ds.length = cs.length ∧ ∀ i, i < cs.length → retD (cs.getD i .junk) = some (ds.getD i .nilp)
  | [], ds, h => by simp [retDL] at h; subst h; simp
  | x :: r, ds, h => by
    simp only [retDL] at h
    split at h
    · rename_i y ys hy hys
      simp only [Option.some.injEq] at h; subst h
      obtain ⟨h1, h2⟩ := retDL_get hys
      refine ⟨by simp [h1], fun i hi => ?_⟩
      cases i with
      | zero => simpa using hy
      | succ i => simpa using h2 i (by simpa using hi)
    · contradiction

theorem retD_sound {n : Nat} {x : AV} {v : Value} (h : RelA K ι n x v) : ∀ {d : DV}, retD x = some d → Rel K d v := by
  induction h with
  | d x v h => intro d hd; simp only [retD, Option.some.injEq] at hd; subst hd; exact h.norm
  | tsl tok es v h ht hl hc => intro d hd; simp only [retD, Option.some.injEq] at hd; subst hd; exact h
  | agg cs vs hl h ih =>
    intro d hd
    simp only [retD] at hd
    split at hd
    · rename_i ds hds
      simp only [Option.some.injEq] at hd; subst hd
      obtain ⟨h1, h2⟩ := retDL_get hds
      exact .agg _ _ (by omega) fun i hi => ih i (by omega) (h2 i (by omega))
    · contradiction
  | tup cs vs hl h ih =>
    intro d hd
    simp only [retD] at hd
    split at hd
    · rename_i ds hds
      simp only [Option.some.injEq] at hd; subst hd
      obtain ⟨h1, h2⟩ := retDL_get hds
      exact .tup _ _ (by omega) fun i hi => ih i (by omega) (h2 i (by omega))
    · contradiction
  | _ => intro d hd; simp [retD] at hd

def env0 (args : List AV) : Env := fun t => args.getD t (.d (.tup []))

/-- The end of a body, with the memory of the caller's own. -/
def finW (P : Program) (rs : Array ResultVar) (r : AV) (H' : List HO) : Exit → Env → List HO → Prop := fun x e H1 =>
  match x with
  | .normal => resA P H1 e rs.toList = some r ∧ H1 = H'
  | .ret => resA P H1 e rs.toList = some r ∧ H1 = H'
  | _ => False

/-- The end of a body of a function of data. -/
def finP (P : Program) (rs : Array ResultVar) (r : DV) : Exit → Env → List HO → Prop := fun x e H1 =>
  match x with
  | .normal => ∃ y, resA P H1 e rs.toList = some y ∧ retD y = some r
  | .ret => ∃ y, resA P H1 e rs.toList = some y ∧ retD y = some r
  | _ => False

theorem start_env {q : Bool} {n nt : Nat} {args : List AV} {vs : Array Value} (hl : vs.size = args.length) (hr : ∀ i, i < args.length → RelA K ι n (args.getD i .junk) (vs.getD i undef)) (hnt : args.length ≤ nt) (hroom : nt ≤ dSlot) :
    REnv q K ι n nt (env0 args) { tmps := vs ++ Array.replicate (nt - vs.size) undef, defers := [] } := by
  refine ⟨?_, fun _ => rfl, hroom, by simp; omega, fun t => ?_⟩
  · have : env0 args dSlot = .d (.tup []) := by simp [env0, List.getD_eq_getElem?_getD, List.getElem?_eq_none (show args.length ≤ dSlot by omega)]
    rw [this]; rfl
  simp only [env0]
  by_cases ht : t < args.length
  · have := hr t ht
    have e1 : args.getD t (.d (.tup [])) = args.getD t .junk := by simp [List.getD_eq_getElem?_getD, ht]
    have e2 : (vs ++ Array.replicate (nt - vs.size) undef).getD t undef = vs.getD t undef := by
      simp only [Array.getD_eq_getD_getElem?]
      rw [Array.getElem?_append_left (by omega)]
    rw [e1, e2]; exact this
  · have e1 : args.getD t (.d (.tup [])) = .d (.tup []) := by simp [List.getD_eq_getElem?_getD, List.getElem?_eq_none (Nat.not_lt.1 ht)]
    have e2 : (vs ++ Array.replicate (nt - vs.size) undef).getD t undef = undef := by
      simp only [Array.getD_eq_getD_getElem?]
      rw [Array.getElem?_append_right (by omega), Array.getElem?_replicate]
      split <;> rfl
    rw [e1, e2]
    exact .d _ _ (.tup _ _ rfl (fun i hi => by simp at hi))

theorem fnOk_body {f : FuncId} {fn : Func} {c : Code} (hf : P.funcs[f]? = some fn) (hb : fn.body = some c) (hn : (fn.name != "runtime.NumGoroutine") = true) : fnOk P f = true := by
  simp [fnOk, hf, hb] at hn ⊢
  exact hn

/-- What is asked of a body. -/
def bodyOk (nt : Nat) (c : Code) : Bool := dstOk nt c && (noRange c && decide (nt ≤ dSlot))
theorem bodyOk_all {nt : Nat} {c : Code} (h : bodyOk nt c = true) : dstOk nt c = true ∧ noRange c = true ∧ nt ≤ dSlot := by
  simpa [bodyOk, and_assoc] using h

theorem Fn.of_body {f : FuncId} {fn : Func} {c : Code} {args : List AV} {r : AV} {H' : List HO} (hm : P.follows .mixedOrders = true) (hf : P.funcs[f]? = some fn) (hb : fn.body = some c) (hn : (fn.name != "runtime.NumGoroutine") = true)
    (hd : bodyOk fn.ntmps c = true) (hl : args.length ≤ fn.ntmps) (h : wpc P G H.length c (finW P fn.results r H') (env0 args) H) : Fn P G f args H r H' := by
  refine ⟨fnOk_body hf hb hn, fun X K ι w vs hsr hG hvl hvr => ?_⟩
  obtain ⟨hd, hnr, hroom⟩ := bodyOk_all hd
  refine (callsIn_wide (n := 0)).1 (callsIn_of_wp hf hb trivial ?_)
  show Code.wpIn (FR none) 0 P c _ _ _
  have hsr1 : SR ⟨X.w0, K, ι, H.length⟩ K ι H w := ⟨hsr.agree, hsr.below, Mem.le_refl K, fun _ _ => rfl, Nat.le_refl _, Pls.le_refl _ _, hsr.obj, hsr.sep⟩
  refine wpIn_mono (wpc_sound (q := true) (ro := none) (nt := fn.ntmps) hm c _ _ H hd (fun _ => hnr) h ⟨X.w0, K, ι, H.length⟩ K ι _ w rfl hsr1 hG (start_env hvl hvr hl hroom)) ?_
  rintro en a' w' ⟨e', H1, K', ι', hq, g1, g2, g3⟩
  have fin : resA P H1 e' fn.results.toList = some r ∧ H1 = H' → a'.defers = [] ∧ ∃ v, (results fn a'.tmps).run P w' = .ok v w' ∧ ∃ u, Ending.returned v = .returned u ∧ Left X K ι H.length H' r u w' := by
    rintro ⟨hr, rfl⟩
    obtain ⟨v, hv, hrv⟩ := resA_sound hr g1 g3
    refine ⟨g3.plain rfl, v, hv, v, rfl, K', ι', ⟨g1.agree, g1.below, Mem.le_trans hsr.kle g1.kle, fun a ha => by rw [g1.kold a ha]; exact hsr.kold a ha, Nat.le_trans hsr.n0 g1.n0, Pls.le_trans hsr.n0 hsr.ile g1.ile, g1.obj, g1.sep⟩, hrv, g1.kle, g1.ile, g1.n0⟩
  cases en with
  | normal => exact fin hq
  | ret => exact fin hq
  | exit id => exact hq.elim
  | goto l => exact hq.elim
  | panic ch => exact hq.elim
  | outgrown => exact hq.elim

theorem PF.of_body {f : FuncId} {fn : Func} {c : Code} {args : List DV} {r : DV} (hm : P.follows .mixedOrders = true) (hf : P.funcs[f]? = some fn) (hb : fn.body = some c) (hn : (fn.name != "runtime.NumGoroutine") = true)
    (hd : bodyOk fn.ntmps c = true) (hl : args.length ≤ fn.ntmps) (h : wpc P G 0 c (finP P fn.results r) (env0 (args.map .d)) []) : PF P G f args r := by
  intro H
  refine ⟨fnOk_body hf hb hn, fun X K ι w vs hsr hG hvl hvr => ?_⟩
  obtain ⟨hd, hnr, hroom⟩ := bodyOk_all hd
  refine (callsIn_wide (n := 0)).1 (callsIn_of_wp hf hb trivial ?_)
  show Code.wpIn (FR none) 0 P c _ _ _
  have hsr1 : SR ⟨w, K, ι, 0⟩ K ι [] w := ⟨hsr.agree, Below.refl _ _, Mem.le_refl K, fun _ _ => rfl, Nat.zero_le _, fun i hi => absurd hi (Nat.not_lt_zero _), fun i h hi => by simp at hi, fun i j h h' b hi => by simp at hi⟩
  have hvr0 : ∀ i, i < (args.map AV.d).length → RelA K ι 0 ((args.map AV.d).getD i .junk) (vs.getD i undef) := fun i hi => by
    have := hvr i hi
    rw [getD_map' AV.d args i .nilp _ (by simpa using hi)] at this ⊢
    exact .d _ _ this.get
  refine wpIn_mono (wpc_sound (q := true) (ro := none) (nt := fn.ntmps) hm c _ _ [] hd (fun _ => hnr) h ⟨w, K, ι, 0⟩ K ι _ w rfl hsr1 hG (start_env hvl hvr0 (by simpa using hl) hroom)) ?_
  rintro en a' w' ⟨e', H1, K', ι', hq, g1, g2, g3⟩
  have fin : (∃ y, resA P H1 e' fn.results.toList = some y ∧ retD y = some r) → a'.defers = [] ∧ ∃ v, (results fn a'.tmps).run P w' = .ok v w' ∧ ∃ u, Ending.returned v = .returned u ∧ Left X K ι H.length H (.d r) u w' := by
    rintro ⟨y, hy, hr⟩
    obtain ⟨v, hv, hrv⟩ := resA_sound hy g1 g3
    have hrel := retD_sound hrv hr
    have hx : Ext K w K' w' := ⟨g1.kle, g1.kold, g1.agree, g1.below⟩
    exact ⟨g3.plain rfl, v, hv, v, rfl, K', ι, hsr.ext hx, .d _ _ hrel, g1.kle, Pls.le_refl _ _, Nat.le_refl _⟩
  cases en with
  | normal => exact fin hq
  | ret => exact fin hq
  | exit id => exact hq.elim
  | goto l => exact hq.elim
  | panic ch => exact hq.elim
  | outgrown => exact hq.elim

/-- The end of a body of a function of data that holds a range over a function. -/
def finR (P : Program) (rs : Array ResultVar) (r : DV) : Exit → Env → List HO → Prop := fun x e H1 =>
  match x with
  | .normal => (∃ y, resA P H1 e rs.toList = some y ∧ retD y = some r) ∧ ∃ (D i : Nat), e dSlot = .dfr [D] ∧ H1[i]? = some (HO.dfrAt D)
  | .ret => (∃ y, resA P H1 e rs.toList = some y ∧ retD y = some r) ∧ ∃ (D i : Nat), e dSlot = .dfr [D] ∧ H1[i]? = some (HO.dfrAt D)
  | _ => False

theorem retL_dead {e : Env} {i D : Nat} (hi : H[i]? = some (.dfrAt D)) : ∀ rs : List ResultVar, retL P (H.set i .dead) e rs = retL P H e rs
  | [] => rfl
  | x :: rs => by
    have hx : retA P (H.set i .dead) e x = retA P H e x := by
      cases x with
      | tmp t => rfl
      | cell a ty =>
        simp only [retA]
        cases e a with
        | ptr id off =>
          by_cases hc : i = id
          · subst hc
            have hl := (List.getElem?_eq_some_iff.1 hi).1
            simp only [hi, List.getElem?_set_self hl]
          · simp only [List.getElem?_set_ne hc]
        | _ => rfl
    simp only [retL, hx, retL_dead hi rs]

theorem PF.of_range {f : FuncId} {fn : Func} {c : Code} {args : List DV} {r : DV} (hm : P.follows .mixedOrders = true) (hf : P.funcs[f]? = some fn) (hb : fn.body = some c) (hn : (fn.name != "runtime.NumGoroutine") = true)
    (hd : dstOk fn.ntmps c = true) (hroom : fn.ntmps ≤ dSlot) (hl : args.length ≤ fn.ntmps) (h : wpc P G 0 c (finR P fn.results r) (env0 (args.map .d)) []) : PF P G f args r := by
  intro H
  refine ⟨fnOk_body hf hb hn, fun X K ι w vs hsr hG hvl hvr => ?_⟩
  refine (callsIn_wide (n := 0)).1 (callsIn_of_wp_marks hf hb trivial ?_)
  show Code.wpIn (FR none) 0 P c _ _ _
  have hsr1 : SR ⟨w, K, ι, 0⟩ K ι [] w := ⟨hsr.agree, Below.refl _ _, Mem.le_refl K, fun _ _ => rfl, Nat.zero_le _, fun i hi => absurd hi (Nat.not_lt_zero _), fun i h hi => by simp at hi, fun i j h h' b hi => by simp at hi⟩
  have hvr0 : ∀ i, i < (args.map AV.d).length → RelA K ι 0 ((args.map AV.d).getD i .junk) (vs.getD i undef) := fun i hi => by
    have := hvr i hi
    rw [getD_map' AV.d args i .nilp _ (by simpa using hi)] at this ⊢
    exact .d _ _ this.get
  refine wpIn_mono (wpc_sound (q := false) (ro := none) (nt := fn.ntmps) hm c _ _ [] hd (fun hc => by simp at hc) h ⟨w, K, ι, 0⟩ K ι _ w rfl hsr1 hG (start_env hvl hvr0 (by simpa using hl) hroom)) ?_
  rintro en a' w' ⟨e', H1, K', ι', hq, g1, g2, g3⟩
  have fin : ((∃ y, resA P H1 e' fn.results.toList = some y ∧ retD y = some r) ∧ ∃ (D i : Nat), e' dSlot = .dfr [D] ∧ H1[i]? = some (HO.dfrAt D)) → LeavesInM (FR none) 0 P fn a'.tmps (fun e w' => ∃ v, e = .returned v ∧ Left X K ι H.length H (.d r) v w') a'.defers .returning w' := by
    rintro ⟨⟨y, hy, hr⟩, D, i, hD, hi⟩
    have hdef := g3.defers
    rw [hD] at hdef
    rw [hdef]
    obtain ⟨hB, hbl, hob⟩ := g1.obj i _ hi
    have s := g1.putObj (o1 := .dead) (o' := .deferred none) hi rfl (by rw [hbl]; exact hB) (by rw [hbl]; exact hob) rfl trivial (fun b hb => hb.elim)
    rw [hbl] at s
    refine ⟨by simp, .inl ⟨D, _, rfl, run_takeDeferred hob, ?_⟩⟩
    have hy2 : resA P (H1.set i .dead) e' fn.results.toList = some y := by
      unfold resA at hy ⊢
      rw [retL_dead hi]; exact hy
    obtain ⟨v, hv, hrv⟩ := resA_sound hy2 s (by rw [List.length_set]; exact g3)
    have hrel := retD_sound hrv hr
    have hx : Ext K w K' _ := ⟨s.kle, s.kold, s.agree, s.below⟩
    exact ⟨v, hv, v, rfl, K', ι, hsr.ext hx, .d _ _ hrel, s.kle, Pls.le_refl _ _, Nat.le_refl _⟩
  cases en with
  | normal => exact fin hq
  | ret => exact fin hq
  | exit id => exact hq.elim
  | goto l => exact hq.elim
  | panic ch => exact hq.elim
  | outgrown => exact hq.elim

end
end Go.Proofs.YtjmldlknegbimaaGreatDoor.Sx
