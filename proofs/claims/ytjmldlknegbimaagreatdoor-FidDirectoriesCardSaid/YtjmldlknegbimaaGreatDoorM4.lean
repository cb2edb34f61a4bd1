/- The library, joined: A15 A16 A17 A18. -/
import Derived.Test.YtjmldlknegbimaaGreatDoorM3
/- The executor as rewrite rules: one rule an operation. Own library, part 15. -/
set_option linter.unusedVariables false
set_option linter.unusedSimpArgs false
namespace Go.Proofs.YtjmldlknegbimaaGreatDoor.Sx
open Go Go.RowKit

def oK (o : Option AV) (k : AV → Prop) : Prop :=
  match o with
  | some r => k r
  | none => False
@[congr] theorem oK_congr {o o' : Option AV} {k : AV → Prop} (h : o = o') : oK o k = oK o' k := by rw [h]
@[go_sem] theorem oK_some (r : AV) (k : AV → Prop) : oK (some r) k = k r := (rfl)

def oH (o : Option (AV × List HO)) (k : AV → List HO → Prop) : Prop :=
  match o with
  | some (r, H') => k r H'
  | none => False
@[congr] theorem oH_congr {o o' : Option (AV × List HO)} {k : AV → List HO → Prop} (h : o = o') : oH o k = oH o' k := by rw [h]
@[go_sem] theorem oH_some (r : AV) (H : List HO) (k : AV → List HO → Prop) : oH (some (r, H)) k = k r H := (rfl)

@[congr] theorem gW_congr {c c' : Option Bool} {x y : Prop} (h : c = c') : gW c x y = gW c' x y := by rw [h]
@[go_sem] theorem gW_true (x y : Prop) : gW (some true) x y = x := (rfl)
@[go_sem] theorem gW_false (x y : Prop) : gW (some false) x y = y := (rfl)
theorem gW_split {c : Bool} {x y : Prop} (h1 : c = true → x) (h2 : c = false → y) : gW (some c) x y := by
  cases c
  · exact h2 rfl
  · exact h1 rfl

variable {P : Program} {G : Gl} {n0 : Nat}

@[congr] theorem wpc_congr {c : Code} {Q : Exit → Env → List HO → Prop} {e e' : Env} {H H' : List HO} (h : e = e') (h' : H = H') : wpc P G n0 c Q e H = wpc P G n0 c Q e' H' := by rw [h, h']
@[congr] theorem opsW_congr {all : Array Oper} {os : List Oper} {Q : Env → List HO → Prop} {e e' : Env} {H H' : List HO} (h : e = e') (h' : H = H') : opsW P G all os Q e H = opsW P G all os Q e' H' := by rw [h, h']
@[congr] theorem trW_congr {all : Array Oper} {os : List Oper} {cs cs' : List Cls} {Q : List Cls → Env → List HO → Prop} {e e' : Env} {H H' : List HO} (hc : cs = cs') (h : e = e') (h' : H = H') :
    trW P G all os cs Q e H = trW P G all os cs' Q e' H' := by rw [h, h', hc]

section
variable {Q : Exit → Env → List HO → Prop} {e : Env} {H : List HO}
@[go_sem] theorem wpc_skip : wpc P G n0 .skip Q e H = Q .normal e H := (rfl)
@[go_sem] theorem wpc_label (l : Nat) : wpc P G n0 (.label l) Q e H = Q .normal e H := (rfl)
@[go_sem] theorem wpc_ret : wpc P G n0 .ret Q e H = Q .ret e H := (rfl)
@[go_sem] theorem wpc_exit (id : Nat) : wpc P G n0 (.exit id) Q e H = Q (.exit id) e H := (rfl)
/-- What stands behind a piece of code, kept from the rewriting. -/
def thenW (P : Program) (G : Gl) (n0 : Nat) (b : Code) (Q : Exit → Env → List HO → Prop) : Exit → Env → List HO → Prop := fun x e H => match x with | .normal => wpc P G n0 b Q e H | x => Q x e H
def blockW (id : Nat) (Q : Exit → Env → List HO → Prop) : Exit → Env → List HO → Prop := fun x e H => match x with | .exit id' => if id' = id then Q .normal e H else Q (.exit id') e H | x => Q x e H
@[go_sem] theorem wpc_seq (a b : Code) : wpc P G n0 (.seq a b) Q e H = wpc P G n0 a (thenW P G n0 b Q) e H := by rw [wpc]; rfl
@[go_sem] theorem thenW_normal (b : Code) : thenW P G n0 b Q .normal e H = wpc P G n0 b Q e H := (rfl)
@[go_sem] theorem thenW_ret (b : Code) : thenW P G n0 b Q .ret e H = Q .ret e H := (rfl)
@[go_sem] theorem thenW_exit (b : Code) (id : Nat) : thenW P G n0 b Q (.exit id) e H = Q (.exit id) e H := (rfl)
@[go_sem] theorem wpc_block (id : Nat) (a : Code) : wpc P G n0 (.block id a) Q e H = wpc P G n0 a (blockW id Q) e H := by rw [wpc]; rfl
@[go_sem] theorem blockW_normal (id : Nat) : blockW id Q .normal e H = Q .normal e H := (rfl)
@[go_sem] theorem blockW_ret (id : Nat) : blockW id Q .ret e H = Q .ret e H := (rfl)
@[go_sem] theorem blockW_same (id : Nat) : blockW id Q (.exit id) e H = Q .normal e H := by simp [blockW]
@[go_sem] theorem blockW_other (id id' : Nat) (h : (id' == id) = false) : blockW id Q (.exit id') e H = Q (.exit id') e H := by
  have : id' ≠ id := by simpa using h
  simp [blockW, this]
@[go_sem] theorem wpc_region (id : Nat) (l : List Oper) : wpc P G n0 (.region id ⟨l⟩ false) Q e H = opsW P G ⟨l⟩ l (Q .normal) e H := (rfl)
def drawQ (ops : Array Oper) (Q : Exit → Env → List HO → Prop) : List Cls → Env → List HO → Prop := fun cs e H => drawOk ops cs = true ∧ Q .normal e H
@[go_sem] theorem wpc_draw (id : Nat) (l : List Oper) : wpc P G n0 (.region id ⟨l⟩ true) Q e H = trW P G ⟨l⟩ l [] (drawQ ⟨l⟩ Q) e H := (rfl)

def condW (P : Program) (G : Gl) (n0 : Nat) (v : AV) (a b : Code) (Q : Exit → Env → List HO → Prop) (e : Env) (H : List HO) : Prop :=
  match v with
  | .d (.bool t) => gW (some t) (wpc P G n0 a Q e H) (wpc P G n0 b Q e H)
  | _ => False
@[congr] theorem condW_congr {v v' : AV} {a b : Code} {Q : Exit → Env → List HO → Prop} {e : Env} {H : List HO} (h : v = v') : condW P G n0 v a b Q e H = condW P G n0 v' a b Q e H := by rw [h]
@[go_sem] theorem wpc_cond (c : Operand) (a b : Code) : wpc P G n0 (.cond c a b) Q e H = condW P G n0 (ev G e c) a b Q e H := by rw [wpc]; rfl
@[go_sem] theorem condW_true (a b : Code) : condW P G n0 (.d (.bool true)) a b Q e H = wpc P G n0 a Q e H := (rfl)
@[go_sem] theorem condW_false (a b : Code) : condW P G n0 (.d (.bool false)) a b Q e H = wpc P G n0 b Q e H := (rfl)
theorem condW_split {t : Bool} {a b : Code} (h1 : t = true → wpc P G n0 a Q e H) (h2 : t = false → wpc P G n0 b Q e H) : condW P G n0 (.d (.bool t)) a b Q e H := by
  cases t
  · exact h2 rfl
  · exact h1 rfl
end

/-! Slots and operands -/
@[go_sem] theorem updO_some (e : Env) (t : Nat) (v : AV) : updO e (some t) v = upd e t v := (rfl)
@[go_sem] theorem updO_none (e : Env) (v : AV) : updO e none v = e := (rfl)
@[go_sem] theorem upd_same (e : Env) (t : Nat) (v : AV) : upd e t v t = v := by simp [upd]
@[go_sem] theorem upd_other (e : Env) (t u : Nat) (v : AV) (h : (u == t) = false) : upd e t v u = e u := by
  have : u ≠ t := by simpa using h
  simp [upd, this]
@[go_sem] theorem ev_tmp (e : Env) (t : Nat) : ev G e (.tmp t) = e t := (rfl)
@[go_sem] theorem ev_func (e : Env) (f : Nat) : ev G e (.func f) = .d (.func f) := (rfl)
@[go_sem] theorem ev_int (e : Env) (k : IntKind) (n : Int) : ev G e (.const (.int k n)) = .d (.int k n) := (rfl)
@[go_sem] theorem ev_bool (e : Env) (b : Bool) : ev G e (.const (.bool b)) = .d (.bool b) := (rfl)
@[go_sem] theorem ev_str (e : Env) (l : List UInt8) : ev G e (.const (.string ⟨⟨l⟩⟩)) = .d (.str l) := (rfl)
@[go_sem] theorem ev_nilp (e : Env) : ev G e (.const (.pointer none)) = .d .nilp := (rfl)
@[go_sem] theorem ev_nilsl (e : Env) : ev G e (.const (.slice none 0 0)) = .d (.sl .nil []) := (rfl)
@[go_sem] theorem ev_nilf (e : Env) : ev G e (.const .nilFunc) = .d .nilf := (rfl)
@[go_sem] theorem ev_nili (e : Env) : ev G e (.const .nilIface) = .d .nili := (rfl)
@[go_sem] theorem env0_zero (x : AV) (l : List AV) : env0 (x :: l) 0 = x := (rfl)
@[go_sem] theorem env0_succ (x : AV) (l : List AV) (t : Nat) : env0 (x :: l) (t + 1) = env0 l t := (rfl)
@[go_sem] theorem env0_1 (x y : AV) (l : List AV) : env0 (x :: y :: l) 1 = y := (rfl)
@[go_sem] theorem env0_2 (x y z : AV) (l : List AV) : env0 (x :: y :: z :: l) 2 = z := (rfl)
@[go_sem] theorem env0_3 (x y z u : AV) (l : List AV) : env0 (x :: y :: z :: u :: l) 3 = u := (rfl)
@[go_sem] theorem env0_4 (x y z u v : AV) (l : List AV) : env0 (x :: y :: z :: u :: v :: l) 4 = v := (rfl)

/-! One rule an operation -/
section
variable {all : Array Oper} {os : List Oper} {Q : Env → List HO → Prop} {e : Env} {H : List HO} {d : Option Tmp} {T : TypeId} {p : String} {af : Array Edge}
/-- What follows an operation. -/
def kO (P : Program) (G : Gl) (all : Array Oper) (os : List Oper) (Q : Env → List HO → Prop) (e : Env) (H : List HO) (d : Option Tmp) : AV → Prop := fun r => opsW P G all os Q (updO e d r) H
def kH (P : Program) (G : Gl) (all : Array Oper) (os : List Oper) (Q : Env → List HO → Prop) (e : Env) (d : Option Tmp) : AV → List HO → Prop := fun r H => opsW P G all os Q (updO e d r) H
@[go_sem] theorem kO_eq (r : AV) : kO P G all os Q e H d r = opsW P G all os Q (updO e d r) H := (rfl)
@[go_sem] theorem kH_eq (r : AV) (H : List HO) : kH P G all os Q e d r H = opsW P G all os Q (updO e d r) H := (rfl)

@[go_sem] theorem opsW_nil : opsW P G all [] Q e H = Q e H := (rfl)
/-- An operation under a guard. -/
def gO (P : Program) (G : Gl) (c : Option Bool) (all : Array Oper) (o : Oper) (os : List Oper) (Q : Env → List HO → Prop) (e : Env) (H : List HO) : Prop := gW c (opsW P G all (o :: os) Q e H) (opsW P G all os Q (updO e o.dst (.d (.tup []))) H)
@[congr] theorem gO_congr {c c' : Option Bool} {o : Oper} {e e' : Env} (h : c = c') (h' : e = e') : gO P G c all o os Q e H = gO P G c' all o os Q e' H := by rw [h, h']
@[go_sem] theorem gO_true (o : Oper) : gO P G (some true) all o os Q e H = opsW P G all (o :: os) Q e H := (rfl)
@[go_sem] theorem gO_false (op : Op) (g : Option (Nat × Bool)) : gO P G (some false) all ⟨d, op, T, p, af, g⟩ os Q e H = opsW P G all os Q (updO e d (.d (.tup []))) H := (rfl)
theorem gO_split {b : Bool} {o : Oper} (h1 : b = true → gO P G (some true) all o os Q e H) (h2 : b = false → gO P G (some false) all o os Q e H) : gO P G (some b) all o os Q e H := by
  cases b
  · exact h2 rfl
  · exact h1 rfl
@[go_sem] theorem opsW_guard (op : Op) (j : Nat) (b : Bool) : opsW P G all (⟨d, op, T, p, af, some (j, b)⟩ :: os) Q e H = gO P G (wantA all e (some (j, b))) all ⟨d, op, T, p, af, none⟩ os Q e H := (rfl)
theorem opsW_of_pst {op : Op} (h : hst P G e H op = none) (h' : ∀ Q', opCall P G e H op Q' = False) : opsW P G all (⟨d, op, T, p, af, none⟩ :: os) Q e H = oK (pst P G e op) (kO P G all os Q e H d) := by
  simp only [opsW, wantA, gW, stepW, h, h']
  cases pst P G e op <;> rfl
@[go_sem] theorem opsW_move (x : Operand) : opsW P G all (⟨d, .move x, T, p, af, none⟩ :: os) Q e H = opsW P G all os Q (updO e d (ev G e x)) H := (rfl)
@[go_sem] theorem opsW_assign (x : Operand) : opsW P G all (⟨d, .assign x, T, p, af, none⟩ :: os) Q e H = opsW P G all os Q (updO e d (ev G e x)) H := (rfl)
@[go_sem] theorem opsW_pick (a b c : Operand) : opsW P G all (⟨d, .pick a b c, T, p, af, none⟩ :: os) Q e H = oK (pkA (ev G e a) (ev G e b) (ev G e c)) (kO P G all os Q e H d) := opsW_of_pst rfl (fun _ => rfl)
@[go_sem] theorem opsW_nilCheck (x : Operand) : opsW P G all (⟨d, .nilCheck x, T, p, af, none⟩ :: os) Q e H = oK (nckA (ev G e x)) (kO P G all os Q e H d) := opsW_of_pst rfl (fun _ => rfl)
@[go_sem] theorem opsW_binOp (op : BinOp) (t yt : TypeId) (x y : Operand) : opsW P G all (⟨d, .binOp op t x y yt, T, p, af, none⟩ :: os) Q e H = oK (binA P op t (ev G e x) (ev G e y) (isC x || isC y)) (kO P G all os Q e H d) := opsW_of_pst rfl (fun _ => rfl)
@[go_sem] theorem opsW_unOp (op : UnOp) (t : TypeId) (x : Operand) : opsW P G all (⟨d, .unOp op t x, T, p, af, none⟩ :: os) Q e H = oK (unA op (ev G e x)) (kO P G all os Q e H d) := opsW_of_pst rfl (fun _ => rfl)
@[go_sem] theorem opsW_fieldAddr (t : TypeId) (x : Operand) (f : Nat) : opsW P G all (⟨d, .fieldAddr t x f, T, p, af, none⟩ :: os) Q e H = oK (faA P t (ev G e x) f) (kO P G all os Q e H d) := opsW_of_pst rfl (fun _ => rfl)
@[go_sem] theorem opsW_field (t : TypeId) (x : Operand) (f : Nat) : opsW P G all (⟨d, .field t x f, T, p, af, none⟩ :: os) Q e H = oK (fieldA P t (ev G e x) f) (kO P G all os Q e H d) := opsW_of_pst rfl (fun _ => rfl)
@[go_sem] theorem opsW_indexAddr (t : TypeId) (x i : Operand) : opsW P G all (⟨d, .indexAddr t x i, T, p, af, none⟩ :: os) Q e H = oK (iaA P t (ev G e x) (ev G e i)) (kO P G all os Q e H d) := opsW_of_pst rfl (fun _ => rfl)
@[go_sem] theorem opsW_index (t : TypeId) (x i : Operand) : opsW P G all (⟨d, .index t x i, T, p, af, none⟩ :: os) Q e H = oK (ixA P t (ev G e x) (ev G e i)) (kO P G all os Q e H d) := opsW_of_pst rfl (fun _ => rfl)
@[go_sem] theorem opsW_slice (t : TypeId) (x : Operand) (lo hi mx : Option Operand) : opsW P G all (⟨d, .slice t x lo hi mx, T, p, af, none⟩ :: os) Q e H = oK (slA P t (ev G e x) (lo.map (ev G e)) (hi.map (ev G e)) (mx.map (ev G e))) (kO P G all os Q e H d) := opsW_of_pst rfl (fun _ => rfl)
@[go_sem] theorem opsW_extract (x : Operand) (i : Nat) : opsW P G all (⟨d, .extract x i, T, p, af, none⟩ :: os) Q e H = oK (exA (ev G e x) i) (kO P G all os Q e H d) := opsW_of_pst rfl (fun _ => rfl)
@[go_sem] theorem opsW_makeFunc (fn : Go.Fn) (a b : List Operand) : opsW P G all (⟨d, .makeFunc fn ⟨a⟩ ⟨b⟩, T, p, af, none⟩ :: os) Q e H = oK (mfA fn (a.map (ev G e)) (b.map (ev G e))) (kO P G all os Q e H d) := opsW_of_pst rfl (fun _ => rfl)
@[go_sem] theorem opsW_build (t : TypeId) (ps : List (Nat × Operand)) : opsW P G all (⟨d, .build t ⟨ps⟩, T, p, af, none⟩ :: os) Q e H = oK (bldA P t (ps.map fun q => (q.1, ev G e q.2))) (kO P G all os Q e H d) := opsW_of_pst rfl (fun _ => rfl)
@[go_sem] theorem opsW_makeInterface (t : TypeId) (x : Operand) : opsW P G all (⟨d, .makeInterface t x, T, p, af, none⟩ :: os) Q e H = oK (miA P t (ev G e x)) (kO P G all os Q e H d) := opsW_of_pst rfl (fun _ => rfl)
@[go_sem] theorem opsW_len (x : Operand) (t : TypeId) : opsW P G all (⟨d, .call ⟨.builtin .len, ⟨[x]⟩, ⟨[t]⟩⟩, T, p, af, none⟩ :: os) Q e H = oK (lnA P t (ev G e x)) (kO P G all os Q e H d) := opsW_of_pst rfl (fun _ => rfl)
@[go_sem] theorem opsW_min (x y : Operand) (ts : Array TypeId) : opsW P G all (⟨d, .call ⟨.builtin .min, ⟨[x, y]⟩, ts⟩, T, p, af, none⟩ :: os) Q e H = oK (minA (ev G e x) (ev G e y)) (kO P G all os Q e H d) := opsW_of_pst rfl (fun _ => rfl)
@[go_sem] theorem opsW_max (x y : Operand) (ts : Array TypeId) : opsW P G all (⟨d, .call ⟨.builtin .max, ⟨[x, y]⟩, ts⟩, T, p, af, none⟩ :: os) Q e H = oK (maxA (ev G e x) (ev G e y)) (kO P G all os Q e H d) := opsW_of_pst rfl (fun _ => rfl)
theorem opsW_of_hst {op : Op} (h : pst P G e op = none) (h' : ∀ Q', opCall P G e H op Q' = False) : opsW P G all (⟨d, op, T, p, af, none⟩ :: os) Q e H = oH (hst P G e H op) (kH P G all os Q e d) := by
  simp only [opsW, wantA, gW, stepW, h, h']
  cases hst P G e H op <;> rfl
@[go_sem] theorem opsW_alloc (t : TypeId) : opsW P G all (⟨d, .alloc t, T, p, af, none⟩ :: os) Q e H = oH (match tz P t with | some z => some (.ptr H.length 0, H ++ [alM t (bldE P t) (ofVL z.cells.toList)]) | none => none) (kH P G all os Q e d) := opsW_of_hst rfl (fun _ => rfl)
@[go_sem] theorem opsW_box (t : TypeId) (x : Operand) : opsW P G all (⟨d, .box t x, T, p, af, none⟩ :: os) Q e H = oH (match cellsA (ev G e x) with | some cs => some (.ptr H.length 0, H ++ [.box cs]) | none => none) (kH P G all os Q e d) := opsW_of_hst rfl (fun _ => rfl)
@[go_sem] theorem opsW_store (t : TypeId) (x y : Operand) : opsW P G all (⟨d, .store t x y, T, p, af, none⟩ :: os) Q e H = oH (stB P H t (ev G e x) (ev G e y)) (kH P G all os Q e d) := opsW_of_hst rfl (fun _ => rfl)
@[go_sem] theorem opsW_makeSlice (t : TypeId) (x y : Operand) : opsW P G all (⟨d, .makeSlice t x y, T, p, af, none⟩ :: os) Q e H = oH (if isZ x = true then mkZ P H t (ev G e y) else mkA P H t (ev G e x) (ev G e y)) (kH P G all os Q e d) := opsW_of_hst rfl (fun _ => rfl)
@[go_sem] theorem opsW_buildSlice (t : TypeId) (n : Nat) (ps : List (Nat × Operand)) : opsW P G all (⟨d, .buildSlice t n ⟨ps⟩, T, p, af, none⟩ :: os) Q e H = oH (bsA P H t n (ps.map fun q => (q.1, ev G e q.2))) (kH P G all os Q e d) := opsW_of_hst rfl (fun _ => rfl)
@[go_sem] theorem opsW_append (s x : Operand) (tS tX : TypeId) : opsW P G all (⟨d, .call ⟨.builtin .append, ⟨[s, x]⟩, ⟨[tS, tX]⟩⟩, T, p, af, none⟩ :: os) Q e H = oH (apA P H tS tX (ev G e s) (ev G e x)) (kH P G all os Q e d) := opsW_of_hst rfl (fun _ => rfl)

@[go_sem] theorem opsW_makeMap (t : TypeId) : opsW P G all (⟨d, .makeMap t none, T, p, af, none⟩ :: os) Q e H = oH (some (.mp H.length, H ++ [.mp []])) (kH P G all os Q e d) := opsW_of_hst rfl (fun _ => rfl)
@[go_sem] theorem opsW_lookup (t : TypeId) (x k : Operand) (ok : Bool) : opsW P G all (⟨d, .lookup t x k ok, T, p, af, none⟩ :: os) Q e H = oH (luA P H t (ev G e x) (ev G e k) ok) (kH P G all os Q e d) := opsW_of_hst rfl (fun _ => rfl)
@[go_sem] theorem opsW_mapUpdate (t : TypeId) (x k y : Operand) : opsW P G all (⟨d, .mapUpdate t x k y, T, p, af, none⟩ :: os) Q e H = oH (muA P H t (ev G e x) (ev G e k) (ev G e y)) (kH P G all os Q e d) := opsW_of_hst rfl (fun _ => rfl)

/-- A load, from what is known for good or from a box. -/
def ldX (P : Program) (H : List HO) (t : TypeId) (x : AV) : Option (AV × List HO) :=
  match x with
  | .d (.eptr cs off) => match partA P t (cs.map .d) off with | some r => some (r, H) | none => none
  | .ptr id off =>
    match H[id]? with
    | some (.box cs) => match partA P t cs off with | some r => some (r, H) | none => none
    | _ => none
  | _ => none
@[go_sem] theorem opsW_load (t : TypeId) (x : Operand) : opsW P G all (⟨d, .load t x, T, p, af, none⟩ :: os) Q e H = oH (ldX P H t (ev G e x)) (kH P G all os Q e d) := by
  simp only [opsW, wantA, gW, stepW, pst, hst, ldA, ldB, ldX, opCall]
  cases ev G e x <;> try rfl
  · rename_i y
    cases y <;> try rfl
    rename_i cs off
    cases hp : partA P t (List.map AV.d cs) off <;> simp [hp, oH, kH]
  all_goals (rename_i id off; cases H[id]? <;> try rfl)
  all_goals (rename_i o; cases o <;> try rfl)
  all_goals (rename_i cs; simp only; cases hp : partA P t cs off <;> simp [hp, oH, kH])

/-- A conversion. -/
def cvX (P : Program) (H : List HO) (s t : TypeId) (x : AV) : Option (AV × List HO) :=
  match cvA P s t x with
  | some r => some (r, H)
  | none => cvH P H s t x
@[go_sem] theorem opsW_convert (s t : TypeId) (x : Operand) : opsW P G all (⟨d, .convert s t x, T, p, af, none⟩ :: os) Q e H = oH (cvX P H s t (ev G e x)) (kH P G all os Q e d) := by
  simp only [opsW, wantA, gW, stepW, pst, hst, cvX, opCall]
  cases cvA P s t (ev G e x) with
  | some r => rfl
  | none =>
    simp only
    cases cvH P H s t (ev G e x) <;> rfl

/-- A call that waits for its contract. -/
def callK (P : Program) (G : Gl) (fv : AV) (args : List AV) (H : List HO) (k : AV → List HO → Prop) : Prop := callW P G fv args H k
@[congr] theorem callK_congr {fv fv' : AV} {args args' : List AV} {H H' : List HO} {k : AV → List HO → Prop} (h : fv = fv') (h' : args = args') (h'' : H = H') : callK P G fv args H k = callK P G fv' args' H' k := by rw [h, h', h'']
@[go_sem] theorem opsW_call (f : Operand) (args : List Operand) (ts : Array TypeId) : opsW P G all (⟨d, .call ⟨.value f, ⟨args⟩, ts⟩, T, p, af, none⟩ :: os) Q e H = callK P G (ev G e f) (args.map (ev G e)) H (kH P G all os Q e d) := (rfl)

theorem callK_pf {f : FuncId} {args : List AV} {ds : List DV} {r : DV} {k : AV → List HO → Prop} (h : PF P G f ds r) (ha : normAL args = ds.map .d) (hk : k (.d r) H) : callK P G (.d (.func f)) args H k :=
  ⟨.d r, H, by rw [ha]; exact h H, hk⟩
theorem callK_fn {f : FuncId} {args as : List AV} {r : AV} {H' : List HO} {k : AV → List HO → Prop} (h : Fn P G f as H r H') (ha : normAL args = as) (hk : k r H') : callK P G (.d (.func f)) args H k :=
  ⟨r, H', by rw [ha]; exact h, hk⟩
theorem callK_clo {f : FuncId} {args as caps : List AV} {r : AV} {H' : List HO} {k : AV → List HO → Prop} (h : Fn P G f as H r H') (ha : normAL args ++ caps = as) (hk : k r H') : callK P G (.clo f caps) args H k :=
  ⟨r, H', by rw [ha]; exact h, hk⟩
theorem callK_yld {id : Nat} {args as : List AV} {r : AV} {H' : List HO} {k : AV → List HO → Prop} (h : YFn P G id as H r H') (ha : normAL args = as) (hk : k r H') : callK P G (.yld id) args H k :=
  ⟨r, H', by rw [ha]; exact h, hk⟩
theorem wpc_range {Q : Exit → Env → List HO → Prop} {g : Operand} {ps : Array Tmp} {assign body : Code} (f : FuncId) (caps : List AV) (vals : List (Nat × AV)) (hg : ev G e g = .clo f caps) (hv : At vals e) (hd : ∀ p ∈ vals, p.1 ≠ dSlot) (he : dfrs (e dSlot) = [])
    (h : ∀ D, ∃ r H', Fn P G f (.yld (H.length + 1) :: caps) (H ++ [.dfrAt D, .loop .ready vals ps.toList assign body]) r H' ∧
        ((H'[H.length + 1]? = some (.loop .ready vals ps.toList assign body) ∧ Q .normal (upd e dSlot (.dfr [D])) (H'.set (H.length + 1) .dead)) ∨
         (H'[H.length + 1]? = some (.loop (.done .ret) vals ps.toList assign body) ∧ Q .ret (upd e dSlot (.dfr [D])) (H'.set (H.length + 1) .dead)) ∨
         ∃ id, H'[H.length + 1]? = some (.loop (.done (.exit id)) vals ps.toList assign body) ∧ Q (.exit id) (upd e dSlot (.dfr [D])) (H'.set (H.length + 1) .dead))) : wpc P G n0 (.rangeFunc g ps assign body) Q e H := by
  rw [wpc]
  exact ⟨f, caps, vals, hg, hv, hd, he, h⟩
end

/-! Guards -/
@[go_sem] theorem wantA_eq (all : Array Oper) (e : Env) (j : Nat) (b : Bool) : wantA all e (some (j, b)) = (match dstOf all j with | some t => wantV (e t) b | none => none) := (rfl)
@[go_sem] theorem dstOf_zero (d : Option Tmp) (op : Op) (T : TypeId) (p : String) (af : Array Edge) (g : Option (Nat × Bool)) (l : List Oper) : dstOf ⟨⟨d, op, T, p, af, g⟩ :: l⟩ 0 = d := (rfl)
@[go_sem] theorem dstOf_succ (o : Oper) (l : List Oper) (j : Nat) : dstOf ⟨o :: l⟩ (j + 1) = dstOf ⟨l⟩ j := by simp [dstOf]
@[go_sem] theorem wantV_bool (c b : Bool) : wantV (.d (.bool c)) b = some (c == b) := (rfl)
@[go_sem] theorem wantV_tup (xs : List DV) (b : Bool) : wantV (.d (.tup xs)) b = some false := (rfl)

end Go.Proofs.YtjmldlknegbimaaGreatDoor.Sx

/- What the value functions give, as rewrite rules; draws; a rule for loops. Own library, part 16. -/
set_option linter.unusedVariables false
set_option linter.unusedSimpArgs false
namespace Go.Proofs.YtjmldlknegbimaaGreatDoor.Sx
open Go Go.RowKit

variable {P : Program} {G : Gl} {n0 : Nat} {H : List HO}

@[go_sem] theorem oK_none (k : AV → Prop) : oK none k = False := (rfl)
@[go_sem] theorem oH_none (k : AV → List HO → Prop) : oH none k = False := (rfl)
@[go_sem] theorem oK_ite {c : Prop} [Decidable c] (o : Option AV) (k : AV → Prop) : oK (if c then o else none) k = (c ∧ oK o k) := by by_cases h : c <;> simp [h, oK]
@[go_sem] theorem oH_ite {c : Prop} [Decidable c] (o : Option (AV × List HO)) (k : AV → List HO → Prop) : oH (if c then o else none) k = (c ∧ oH o k) := by by_cases h : c <;> simp [h, oH]
@[go_sem] theorem oK_ite' {c : Prop} [Decidable c] (o : Option AV) (k : AV → Prop) : oK (if c then none else o) k = (¬ c ∧ oK o k) := by by_cases h : c <;> simp [h, oK]

/-! Types -/
def zc (P : Program) (t : TypeId) : Option (List AV) := (tz P t).map fun z => ofVL z.cells.toList
def alA (P : Program) (H : List HO) (t : TypeId) : Option (AV × List HO) := match zc P t with | some cs => some (.ptr H.length 0, H ++ [alM t (bldE P t) cs]) | none => none
section
variable {all : Array Oper} {os : List Oper} {Q : Env → List HO → Prop} {e : Env} {d : Option Tmp} {T : TypeId} {p : String} {af : Array Edge}
theorem alA_eq (P : Program) (H : List HO) (t : TypeId) : (match tz P t with | some z => some (AV.ptr H.length 0, H ++ [alM t (bldE P t) (ofVL z.cells.toList)]) | none => none) = alA P H t := by
  unfold alA zc
  cases tz P t <;> rfl
@[go_sem high] theorem opsW_alloc' (t : TypeId) : opsW P G all (⟨d, .alloc t, T, p, af, none⟩ :: os) Q e H = oH (alA P H t) (kH P G all os Q e d) := by rw [opsW_alloc]; exact congrArg (fun o => oH o (kH P G all os Q e d)) (alA_eq P H t)
end
@[go_sem] theorem alA_def (t : TypeId) : alA P H t = (match zc P t with | some cs => some (.ptr H.length 0, H ++ [alM t (bldE P t) cs]) | none => none) := (rfl)
@[go_sem] theorem alM_none (t : TypeId) (cs : List AV) : alM t none cs = .box cs := (rfl)
@[go_sem] theorem alM_bld (t e : TypeId) : alM t (some e) [.d .nilp, .d (.sl .nil [])] = .bld t e [] := (rfl)

theorem partA_one {t : TypeId} {k : TK} {n : Nat} (h : tk P t = some k) (hn : tsz P t = some n) (ha : k.isAgg = false) (cs : List AV) (off : Nat) : partA P t cs off = cs[off]? := by simp [partA, h, hn, ha]
theorem partA_agg {t : TypeId} {k : TK} {n : Nat} (h : tk P t = some k) (hn : tsz P t = some n) (ha : k.isAgg = true) (cs : List AV) (off : Nat) :
    partA P t cs off = if off + n ≤ cs.length then some (mkAgg ((cs.drop off).take n)) else none := by simp [partA, h, hn, ha]

def faS (o : Nat) (x : AV) : Option AV :=
  match x with
  | .ptr id off => some (.ptr id (off + o))
  | .d (.eptr cs off) => some (.d (.eptr cs (off + o)))
  | _ => none
@[go_sem] theorem faS_ptr (o id off : Nat) : faS o (.ptr id off) = some (.ptr id (off + o)) := (rfl)
@[go_sem] theorem faS_eptr (o off : Nat) (cs : List DV) : faS o (.d (.eptr cs off)) = some (.d (.eptr cs (off + o))) := (rfl)
theorem faA_eq {t f u o : Nat} (h : fieldOf P t f = some (u, o)) (hz : nz (tsz P u) = true) (x : AV) : faA P t x f = faS o x := by simp [faA, h, hz]; rfl
def fiS (P : Program) (u o : Nat) (x : AV) : Option AV :=
  match x with
  | .d (.agg cs) => partA P u (cs.map .d) o
  | .agg cs => partA P u cs o
  | _ => none
@[go_sem] theorem fiS_d (u o : Nat) (cs : List DV) : fiS P u o (.d (.agg cs)) = partA P u (cs.map .d) o := (rfl)
@[go_sem] theorem fiS_a (u o : Nat) (cs : List AV) : fiS P u o (.agg cs) = partA P u cs o := (rfl)
theorem fieldA_eq {t f u o : Nat} (h : fieldOf P t f = some (u, o)) (x : AV) : fieldA P t x f = fiS P u o x := by simp [fieldA, h]; rfl

def blS (pl : List (Nat × Nat)) (z : List AV) (ps : List (Nat × AV)) : Option AV := match fillA (fun i => pl[i]?) z ps with | some cs => some (mkAgg cs) | none => none
theorem bldA_struct {t : TypeId} {fs : List (TypeId × Nat)} {pl : List (Nat × Nat)} {z : List AV} (hz : zc P t = some z) (hk : tk P t = some (.struct fs)) (hp : placeL P t = some pl) (ps : List (Nat × AV)) : bldA P t ps = blS pl z ps := by
  unfold zc at hz
  cases h : tz P t with
  | none => simp [h] at hz
  | some zv => simp [h] at hz; simp only [bldA, h, hk, hp, hz, blS]; rfl
@[go_sem] theorem blS_eq {pl : List (Nat × Nat)} {z : List AV} {ps : List (Nat × AV)} : blS pl z ps = match fillA (fun i => pl[i]?) z ps with | some cs => some (mkAgg cs) | none => none := (rfl)
@[go_sem] theorem fillA_nil (pl : Nat → Option (Nat × Nat)) (cs : List AV) : fillA pl cs [] = some cs := (rfl)
@[go_sem] theorem fillA_cons (pl : Nat → Option (Nat × Nat)) (cs : List AV) (i : Nat) (v : AV) (r : List (Nat × AV)) : fillA pl cs ((i, v) :: r) = (match pl i, cellsA v with
    | some (off, size), some vc => if vc.length = size ∧ off + size ≤ cs.length then fillA pl (cs.take off ++ vc ++ cs.drop (off + size)) r else none
    | _, _ => none) := by rw [fillA]; rfl

def iaS (s : Nat) (x i : AV) : Option AV :=
  match i with
  | .d (.int _ j) =>
    match x with
    | .d (.sl _ es) => elA s es j
    | .tsl _ es => elA s es j
    | .bsl id off len _ => if 0 ≤ j ∧ j < len then some (.ptr id (off + j.toNat * s)) else none
    | _ => none
  | _ => none
theorem iaA_slice {t e : TypeId} {s : Nat} (h : tk P t = some (.slice e)) (hs : tsz P e = some s) (x i : AV) : iaA P t x i = iaS s x i := by
  cases i with
  | d i => cases i <;> simp [iaA, h, hs, iaS]; rfl
  | _ => simp [iaA, h, iaS]
@[go_sem] theorem oK_elA (s : Nat) (es : List (List DV)) (j : Int) (k : AV → Prop) : oK (elA s es j) k = ∃ h : 0 ≤ j ∧ j.toNat < es.length, (es[j.toNat]'h.2).length = s ∧ k (.d (.eptr (es[j.toNat]'h.2) 0)) := by
  unfold elA
  by_cases h : 0 ≤ j ∧ j.toNat < es.length
  · have hj : 0 ≤ j ∧ j < es.length := ⟨h.1, by omega⟩
    have hg : es.getD j.toNat [] = es[j.toNat]'h.2 := by simp [List.getD_eq_getElem?_getD, h.2]
    by_cases hl : (es[j.toNat]'h.2).length = s
    · rw [hg, if_pos ⟨hj.1, hj.2, hl⟩]; simp [oK, h, hl]
    · rw [hg, if_neg (fun hc => hl hc.2.2)]; simp [oK, hl]
  · rw [if_neg (fun hc => h ⟨hc.1, by omega⟩)]
    simp [oK, h]
@[go_sem high] theorem oK_elA_map {α : Type} (s : Nat) (f : α → List DV) (l : List α) (j : Int) (k : AV → Prop) : oK (elA s (l.map f) j) k = ∃ h : 0 ≤ j ∧ j.toNat < l.length, (f (l[j.toNat]'h.2)).length = s ∧ k (.d (.eptr (f (l[j.toNat]'h.2)) 0)) := by
  rw [oK_elA]; simp
@[go_sem] theorem iaS_sl (s : Nat) (st : St) (es : List (List DV)) (k : IntKind) (j : Int) : iaS s (.d (.sl st es)) (.d (.int k j)) = elA s es j := (rfl)
@[go_sem] theorem iaS_tsl (s tok : Nat) (es : List (List DV)) (k : IntKind) (j : Int) : iaS s (.tsl tok es) (.d (.int k j)) = elA s es j := (rfl)
@[go_sem] theorem iaS_bsl (s id off len cap : Nat) (k : IntKind) (j : Int) : iaS s (.bsl id off len cap) (.d (.int k j)) = if 0 ≤ j ∧ j < len then some (.ptr id (off + j.toNat * s)) else none := (rfl)

def iaAr (m s : Nat) (x i : AV) : Option AV :=
  match i with
  | .d (.int _ j) => if 0 ≤ j ∧ j < m then
        match x with
        | .ptr id off => some (.ptr id (off + j.toNat * s))
        | .d (.eptr cs off) => some (.d (.eptr cs (off + j.toNat * s)))
        | _ => none
      else none
  | _ => none
theorem iaA_array {t e : TypeId} {m s : Nat} (h : tk P t = some (.array m e)) (hs : tsz P e = some s) (x i : AV) : iaA P t x i = iaAr m s x i := by
  cases i with
  | d i => cases i <;> simp [iaA, h, hs, iaAr]; rfl
  | _ => simp [iaA, h, iaAr]
@[go_sem] theorem iaAr_ptr (m s id off : Nat) (k : IntKind) (j : Int) : iaAr m s (.ptr id off) (.d (.int k j)) = if 0 ≤ j ∧ j < m then some (.ptr id (off + j.toNat * s)) else none := (rfl)
@[go_sem] theorem iaAr_eptr (m s off : Nat) (cs : List DV) (k : IntKind) (j : Int) : iaAr m s (.d (.eptr cs off)) (.d (.int k j)) = if 0 ≤ j ∧ j < m then some (.d (.eptr cs (off + j.toNat * s))) else none := (rfl)

def ixS (x i : AV) : Option AV :=
  match x, i with
  | .d (.str s), .d (.int _ j) => if 0 ≤ j ∧ j < s.length then some (.d (.int .u8 ((s.getD j.toNat 0).toNat : Nat))) else none
  | _, _ => none
theorem ixA_str {t : TypeId} (h : tk P t = some .string) (x i : AV) : ixA P t x i = ixS x i := by
  cases x with
  | d x => cases x with
    | str s => cases i with
      | d i => cases i <;> simp [ixA, h, ixS]
      | _ => simp [ixA, h, ixS]
    | _ => simp [ixA, h, ixS]
  | _ => simp [ixA, h, ixS]
@[go_sem] theorem oK_ixS (s : List UInt8) (kd : IntKind) (j : Int) (k : AV → Prop) : oK (ixS (.d (.str s)) (.d (.int kd j))) k = ∃ h : 0 ≤ j ∧ j.toNat < s.length, k (.d (.int .u8 ((s[j.toNat]'h.2).toNat : Nat))) := by
  unfold ixS
  by_cases h : 0 ≤ j ∧ j.toNat < s.length
  · have hg : s.getD j.toNat 0 = s[j.toNat]'h.2 := by simp [List.getD_eq_getElem?_getD, h.2]
    simp only [hg]
    rw [if_pos ⟨h.1, by omega⟩]; simp [oK, h]
  · simp only
    rw [if_neg (fun hc => h ⟨hc.1, by omega⟩)]
    simp [oK, h]
def ixAr (P : Program) (e m z : Nat) (x i : AV) : Option AV :=
  match x, i with
  | .d (.agg cs), .d (.int _ j) => if 0 ≤ j ∧ j < m then partA P e (cs.map .d) (j.toNat * z) else none
  | .agg cs, .d (.int _ j) => if 0 ≤ j ∧ j < m then partA P e cs (j.toNat * z) else none
  | _, _ => none
theorem ixA_array {t e : TypeId} {m z : Nat} (h : tk P t = some (.array m e)) (hz : tsz P e = some z) (x i : AV) : ixA P t x i = ixAr P e m z x i := by
  cases x with
  | d x => cases x with
    | agg s => cases i with
      | d i => cases i <;> simp [ixA, h, hz, ixAr]
      | _ => simp [ixA, h, ixAr]
    | _ => simp [ixA, h, ixAr]
  | agg s => cases i with
      | d i => cases i <;> simp [ixA, h, hz, ixAr]
      | _ => simp [ixA, h, ixAr]
  | _ => simp [ixA, h, ixAr]
@[go_sem] theorem ixAr_d (e m z : Nat) (cs : List DV) (k : IntKind) (j : Int) : ixAr P e m z (.d (.agg cs)) (.d (.int k j)) = if 0 ≤ j ∧ j < m then partA P e (cs.map .d) (j.toNat * z) else none := (rfl)
@[go_sem] theorem ixAr_a (e m z : Nat) (cs : List AV) (k : IntKind) (j : Int) : ixAr P e m z (.agg cs) (.d (.int k j)) = if 0 ≤ j ∧ j < m then partA P e cs (j.toNat * z) else none := (rfl)

def slStr (x : AV) (lo hi : Option AV) : Option AV :=
  match x with
  | .d (.str s) => match bdA s.length lo hi with | some (l, h) => some (.d (.str (strCut s l h))) | none => none
  | _ => none
theorem slA_str {t : TypeId} (h : tk P t = some .string) (x : AV) (lo hi : Option AV) : slA P t x lo hi none = slStr x lo hi := by
  cases x with
  | d x => cases x <;> (simp only [slA, h, slStr]; try rfl)
  | _ => (simp only [slA, h, slStr]; try rfl)
@[go_sem] theorem oK_slStr_both (s : List UInt8) (k1 k2 : IntKind) (l h : Int) (k : AV → Prop) : oK (slStr (.d (.str s)) (some (.d (.int k1 l))) (some (.d (.int k2 h)))) k = ((0 ≤ l ∧ l ≤ h ∧ h ≤ s.length) ∧ k (.d (.str ((s.take h.toNat).drop l.toNat)))) := by
  simp only [slStr, bdA, asI]
  by_cases hc : 0 ≤ l ∧ l ≤ h ∧ h ≤ s.length
  · simp only [if_pos hc]; simp [oK, strCut, hc]
  · simp only [if_neg hc]; simp [oK]; intro a b; exact fun c => absurd ⟨a, b, c⟩ hc
@[go_sem] theorem oK_slStr_lo (s : List UInt8) (k1 : IntKind) (l : Int) (k : AV → Prop) : oK (slStr (.d (.str s)) (some (.d (.int k1 l))) none) k = ((0 ≤ l ∧ l ≤ s.length) ∧ k (.d (.str (s.drop l.toNat)))) := by
  simp only [slStr, bdA, asI]
  by_cases hc : 0 ≤ l ∧ l ≤ s.length
  · simp only [if_pos (show 0 ≤ l ∧ l ≤ (s.length : Int) ∧ (s.length : Int) ≤ s.length from ⟨hc.1, hc.2, by omega⟩)]; simp [oK, strCut, hc]
  · simp only [if_neg (show ¬ (0 ≤ l ∧ l ≤ (s.length : Int) ∧ (s.length : Int) ≤ s.length) from fun h => hc ⟨h.1, h.2.1⟩)]; simp [oK]; intro a b; exact absurd ⟨a, b⟩ hc
@[go_sem] theorem oK_slStr_hi (s : List UInt8) (k1 : IntKind) (h : Int) (k : AV → Prop) : oK (slStr (.d (.str s)) none (some (.d (.int k1 h)))) k = ((0 ≤ h ∧ h ≤ s.length) ∧ k (.d (.str (s.take h.toNat)))) := by
  simp only [slStr, bdA, asI]
  by_cases hc : 0 ≤ h ∧ h ≤ s.length
  · simp only [if_pos (show (0 : Int) ≤ 0 ∧ 0 ≤ h ∧ h ≤ (s.length : Int) from ⟨by omega, hc.1, hc.2⟩)]; simp [oK, strCut, hc]
  · simp only [if_neg (show ¬ ((0 : Int) ≤ 0 ∧ 0 ≤ h ∧ h ≤ (s.length : Int)) from fun h => hc h.2)]; simp [oK]; intro a b; exact absurd ⟨a, b⟩ hc
@[go_sem] theorem slStr_none (s : List UInt8) : slStr (.d (.str s)) none none = some (.d (.str s)) := by simp [slStr, bdA, strCut]

def slS (z : Nat) (x : AV) (lo hi : Option AV) : Option AV :=
  match x with
  | .d (.sl _ es) => if szOk z es then (match bdA es.length lo hi with | some (l, h) => some (.d (.sl .any ((es.take h).drop l))) | none => none) else none
  | .tsl _ es => if szOk z es then (match bdA es.length lo hi with | some (l, h) => some (.d (.sl .any ((es.take h).drop l))) | none => none) else none
  | .bsl id off len cap => if len ≤ cap then (match bdA len lo hi with | some (l, h) => some (.bsl id (if cap = l then off else off + l * z) (h - l) (cap - l)) | none => none) else none
  | _ => none
theorem slA_slice {t e : TypeId} {z : Nat} (h : tk P t = some (.slice e)) (hz : tsz P e = some z) (x : AV) (lo hi : Option AV) : slA P t x lo hi none = slS z x lo hi := by
  cases x with
  | d x => cases x <;> (simp only [slA, h, hz, slS]; try rfl)
  | _ => (simp only [slA, h, hz, slS]; try rfl)
def slE (z : Nat) (es : List (List DV)) (lo hi : Option AV) : Option AV :=
  if szOk z es then (match bdA es.length lo hi with | some (l, h) => some (.d (.sl .any ((es.take h).drop l))) | none => none) else none
@[go_sem] theorem slS_sl (z : Nat) (st : St) (es : List (List DV)) (lo hi : Option AV) : slS z (.d (.sl st es)) lo hi = slE z es lo hi := (rfl)
@[go_sem] theorem slS_tsl (z tok : Nat) (es : List (List DV)) (lo hi : Option AV) : slS z (.tsl tok es) lo hi = slE z es lo hi := (rfl)
@[go_sem] theorem oK_slE_both (z : Nat) (s : List (List DV)) (k1 k2 : IntKind) (l h : Int) (k : AV → Prop) : oK (slE z s (some (.d (.int k1 l))) (some (.d (.int k2 h)))) k = (szOk z s = true ∧ (0 ≤ l ∧ l ≤ h ∧ h ≤ s.length) ∧ k (.d (.sl .any ((s.take h.toNat).drop l.toNat)))) := by
  simp only [slE, bdA, asI]
  by_cases hz : szOk z s = true
  · rw [if_pos hz]
    by_cases hc : 0 ≤ l ∧ l ≤ h ∧ h ≤ s.length
    · simp only [if_pos hc]; simp [oK, hc, hz]
    · simp only [if_neg hc]; simp [oK]; intro _ a b; exact fun c => absurd ⟨a, b, c⟩ hc
  · rw [if_neg hz]; simp [oK, hz]
@[go_sem] theorem oK_slE_lo (z : Nat) (s : List (List DV)) (k1 : IntKind) (l : Int) (k : AV → Prop) : oK (slE z s (some (.d (.int k1 l))) none) k = (szOk z s = true ∧ (0 ≤ l ∧ l ≤ s.length) ∧ k (.d (.sl .any (s.drop l.toNat)))) := by
  simp only [slE, bdA, asI]
  by_cases hz : szOk z s = true
  · rw [if_pos hz]
    by_cases hc : 0 ≤ l ∧ l ≤ s.length
    · simp only [if_pos (show 0 ≤ l ∧ l ≤ (s.length : Int) ∧ (s.length : Int) ≤ s.length from ⟨hc.1, hc.2, by omega⟩)]; simp [oK, hc, hz]
    · simp only [if_neg (show ¬ (0 ≤ l ∧ l ≤ (s.length : Int) ∧ (s.length : Int) ≤ s.length) from fun h => hc ⟨h.1, h.2.1⟩)]; simp [oK]; intro _ a b; exact absurd ⟨a, b⟩ hc
  · rw [if_neg hz]; simp [oK, hz]
@[go_sem] theorem oK_slE_hi (z : Nat) (s : List (List DV)) (k1 : IntKind) (h : Int) (k : AV → Prop) : oK (slE z s none (some (.d (.int k1 h)))) k = (szOk z s = true ∧ (0 ≤ h ∧ h ≤ s.length) ∧ k (.d (.sl .any (s.take h.toNat)))) := by
  simp only [slE, bdA, asI]
  by_cases hz : szOk z s = true
  · rw [if_pos hz]
    by_cases hc : 0 ≤ h ∧ h ≤ s.length
    · simp only [if_pos (show (0 : Int) ≤ 0 ∧ 0 ≤ h ∧ h ≤ (s.length : Int) from ⟨by omega, hc.1, hc.2⟩)]; simp [oK, hc, hz]
    · simp only [if_neg (show ¬ ((0 : Int) ≤ 0 ∧ 0 ≤ h ∧ h ≤ (s.length : Int)) from fun h => hc h.2)]; simp [oK]; intro _ a b; exact absurd ⟨a, b⟩ hc
  · rw [if_neg hz]; simp [oK, hz]

def lnS (x : AV) : Option AV := if lenK x (.slice 0) then lenA x else none
theorem lnA_slice {t e : TypeId} (h : tk P t = some (.slice e)) (x : AV) : lnA P t x = lnS x := by simp only [lnA, h, lnS]; rfl
@[go_sem] theorem lnS_sl (st : St) (es : List (List DV)) : lnS (.d (.sl st es)) = some (.d (.int .i64 es.length)) := (rfl)
@[go_sem] theorem lnS_tsl (tok : Nat) (es : List (List DV)) : lnS (.tsl tok es) = some (.d (.int .i64 es.length)) := (rfl)
@[go_sem] theorem lnS_bsl (id off len cap : Nat) : lnS (.bsl id off len cap) = some (.d (.int .i64 len)) := (rfl)
def lnStr (x : AV) : Option AV := if lenK x .string then lenA x else none
theorem lnA_str {t : TypeId} (h : tk P t = some .string) (x : AV) : lnA P t x = lnStr x := by simp only [lnA, h, lnStr]
@[go_sem] theorem lnStr_str (s : List UInt8) : lnStr (.d (.str s)) = some (.d (.int .i64 s.length)) := (rfl)

def bsS (s : Nat) (zs : List AV) (H : List HO) (len : Nat) (ps : List (Nat × AV)) : Option (AV × List HO) :=
  if len * s ≤ 16777216 then
    match fillA (fun i => some (i * s, s)) (zerosA len zs) ps with
    | some cs => match allD cs with
      | some ds => some (.d (.sl .full (chunk s len ds)), H)
      | none => some (.bsl H.length 0 len len, H ++ [.box cs])
    | none => none
  else none
theorem ofVL_len (l : List Value) : (ofVL l).length = l.length := by induction l <;> simp_all [ofVL]
theorem bsA_eq {t e : TypeId} {z : Nat} {zs : List AV} (h : tk P t = some (.slice e)) (hz : tsz P e = some z) (hc : zc P e = some zs) (hl : zs.length = z) (H : List HO) (n : Nat) (ps : List (Nat × AV)) : bsA P H t n ps = bsS z zs H n ps := by
  unfold zc at hc
  cases hv : tz P e with
  | none => simp [hv] at hc
  | some zv =>
    simp [hv] at hc
    subst hc
    have : zv.cells.size = z := by rw [← hl, ofVL_len]; simp
    simp only [bsA, h, hz, hv, bsS, this, and_true]; rfl
@[go_sem] theorem bsS_eq (s : Nat) (zs : List AV) (H : List HO) (len : Nat) (ps : List (Nat × AV)) : bsS s zs H len ps = if len * s ≤ 16777216 then
    match fillA (fun i => some (i * s, s)) (zerosA len zs) ps with
    | some cs => match allD cs with
      | some ds => some (.d (.sl .full (chunk s len ds)), H)
      | none => some (.bsl H.length 0 len len, H ++ [.box cs])
    | none => none
  else none := (rfl)
def mkS (by_ : Nat) (z0 : AV) (H : List HO) (l c : AV) : Option (AV × List HO) :=
  match l, c with
  | .d (.int _ a), .d (.int _ b) => if a = b ∧ 0 ≤ a ∧ a * (by_ + 1) ≤ 1099511627776 then some (.bsl H.length 0 a.toNat a.toNat, H ++ [.box (List.replicate a.toNat z0)]) else none
  | _, _ => none
theorem mkA_eq {t e : TypeId} {by_ : Nat} {z0 : AV} (h : tk P t = some (.slice e)) (hz : tsz P e = some 1) (hb : tby P e = some by_) (hc : zc P e = some [z0]) (H : List HO) (l c : AV) : mkA P H t l c = mkS by_ z0 H l c := by
  unfold zc at hc
  cases hv : tz P e with
  | none => simp [hv] at hc
  | some zv =>
    simp [hv] at hc
    have h1 : zv.cells.size = 1 := by have := congrArg List.length hc; rw [ofVL_len] at this; simpa using this
    have h2 : ofV (zv.cells.getD 0 undef) = z0 := by
      have : zv.cells.toList = [zv.cells.getD 0 undef] := by
        apply List.ext_getElem
        · simpa using h1
        · intro i a b
          have : i = 0 := by simp at b; omega
          subst this
          simp [Array.getD, h1]
      rw [this] at hc
      simpa [ofVL] using hc
    cases l with
    | d l => cases l with
      | int k a => cases c with
        | d c => cases c with
          | int k b => simp only [mkA, h, hz, hb, hv, mkS, h1, h2, true_and]
          | _ => simp [mkA, h, mkS]
        | _ => simp [mkA, h, mkS]
      | _ => simp [mkA, h, mkS]
    | _ => simp [mkA, h, mkS]
@[go_sem] theorem mkS_eq (by_ : Nat) (z0 : AV) (H : List HO) (k k' : IntKind) (a b : Int) : mkS by_ z0 H (.d (.int k a)) (.d (.int k' b)) = if a = b ∧ 0 ≤ a ∧ a * (by_ + 1) ≤ 1099511627776 then some (.bsl H.length 0 a.toNat a.toNat, H ++ [.box (List.replicate a.toNat z0)]) else none := (rfl)

@[go_sem] theorem isZ_tmp (t : Tmp) : isZ (.tmp t) = false := (rfl)
@[go_sem] theorem isZ_int (k : IntKind) (n : Int) : isZ (.const (.int k n)) = decide (n = 0) := (rfl)
def mkZS (s by_ : Nat) (H : List HO) (c : AV) : Option (AV × List HO) :=
  match c with
  | .d (.int _ b) => if 0 ≤ b ∧ b * (by_ + 1) ≤ 1099511627776 then some (.tsl H.length [], H ++ [.tok s 0]) else none
  | _ => none
theorem mkZ_eq {t e : TypeId} {s by_ : Nat} {zs : List AV} (h : tk P t = some (.slice e)) (hz : tsz P e = some s) (hb : tby P e = some by_) (hc : zc P e = some zs) (H : List HO) (c : AV) : mkZ P H t c = mkZS s by_ H c := by
  unfold zc at hc
  cases hv : tz P e with
  | none => simp [hv] at hc
  | some zv =>
    cases c with
    | d c => cases c <;> simp [mkZ, h, hz, hb, hv, mkZS]
    | _ => simp [mkZ, h, mkZS]
@[go_sem] theorem mkZS_eq (s by_ : Nat) (H : List HO) (k : IntKind) (b : Int) : mkZS s by_ H (.d (.int k b)) = if 0 ≤ b ∧ b * (by_ + 1) ≤ 1099511627776 then some (.tsl H.length [], H ++ [.tok s 0]) else none := (rfl)

def luS (z : AV) (H : List HO) (x k : AV) (ok : Bool) : Option (AV × List HO) :=
  match x, k with
  | .mp id, .d (.str s) => match H[id]? with | some (.mp es) => some (luR ok z (mpFind s es), H) | _ => none
  | _, _ => none
theorem luA_eq {t kt et : TypeId} {z : AV} (h : tkm P t = some (kt, et)) (hk : tk P kt = some .string) (hz : (tz P et).map ofV = some z) (H : List HO) (x k : AV) (ok : Bool) : luA P H t x k ok = luS z H x k ok := by
  cases hv : tz P et with
  | none => simp [hv] at hz
  | some zv =>
    simp [hv] at hz
    subst hz
    cases x with
    | mp id => cases k with
      | d k => cases k with
        | str s =>
          simp only [luA, h, hk, hv, luS]
          cases H[id]? with
          | none => rfl
          | some o => cases o <;> rfl
        | _ => simp [luA, h, luS]
      | _ => simp [luA, h, luS]
    | _ => simp [luA, h, luS]
def muS (H : List HO) (m k v : AV) : Option (AV × List HO) :=
  match m, k, v with
  | .mp id, .d (.str s), .d d => match H[id]? with | some (.mp es) => some (.d (.tup []), H.set id (.mp (mpPut s d es))) | _ => none
  | _, _, _ => none
theorem muA_eq {t kt et : TypeId} (h : tkm P t = some (kt, et)) (hk : tk P kt = some .string) (H : List HO) (m k v : AV) : muA P H t m k v = muS H m k v := by
  cases m with
  | mp id => cases k with
    | d k => cases k with
      | str s => cases v with
        | d d =>
          simp only [muA, h, hk, muS]
          cases H[id]? with
          | none => rfl
          | some o => cases o <;> rfl
        | _ => simp [muA, h, muS]
      | _ => simp [muA, h, muS]
    | _ => simp [muA, h, muS]
  | _ => simp [muA, h, muS]
@[go_sem] theorem luS_eq (z : AV) (H : List HO) (id : Nat) (s : List UInt8) (ok : Bool) : luS z H (.mp id) (.d (.str s)) ok = match H[id]? with | some (.mp es) => some (luR ok z (mpFind s es), H) | _ => none := (rfl)
@[go_sem] theorem muS_eq (H : List HO) (id : Nat) (s : List UInt8) (d : DV) : muS H (.mp id) (.d (.str s)) (.d d) = match H[id]? with | some (.mp es) => some (.d (.tup []), H.set id (.mp (mpPut s d es))) | _ => none := (rfl)

def apS (z by_ : Nat) (H : List HO) (s x : AV) : Option (AV × List HO) :=
  match x with
  | .d (.sl _ new) => if elOk z new = true then apB H z by_ s new else none
  | .tsl _ new => if elOk z new = true then apB H z by_ s new else none
  | _ => none
theorem apA_slice {tS tX e e' : TypeId} {z by_ : Nat} {zs : List AV} (h : tk P tS = some (.slice e)) (h' : tk P tX = some (.slice e')) (hz : tsz P e = some z) (hb : tby P e = some by_) (hc : zc P e = some zs) (hl : zs.length = z) (H : List HO) (s x : AV) :
    apA P H tS tX s x = apS z by_ H s x := by
  unfold zc at hc
  cases hv : tz P e with
  | none => simp [hv] at hc
  | some zv =>
    simp [hv] at hc
    subst hc
    have : zv.cells.size = z := by rw [← hl, ofVL_len]; simp
    cases x with
    | d x => cases x <;> simp [apA, h, h', hz, hb, hv, this, srcKA, srcA, apS]
    | _ => simp [apA, h, h', hz, hb, hv, this, srcKA, srcA, apS]
theorem elOk_bytes (x : List UInt8) : elOk 1 (x.map byteEl) = true := by simp [elOk, byteEl, oneD, oneA]
theorem apA_str {tS tX e : TypeId} {by_ : Nat} {z0 : AV} (h : tk P tS = some (.slice e)) (h' : tk P tX = some .string) (hz : tsz P e = some 1) (hb : tby P e = some by_) (hc : zc P e = some [z0]) (H : List HO) (s : AV) (x : List UInt8) :
    apA P H tS tX s (.d (.str x)) = apB H 1 by_ s (x.map byteEl) := by
  unfold zc at hc
  cases hv : tz P e with
  | none => simp [hv] at hc
  | some zv =>
    simp [hv] at hc
    have h1 : zv.cells.size = 1 := by have := congrArg List.length hc; rw [ofVL_len] at this; simpa using this
    simp only [apA, h, h', hz, hb, hv, h1, srcKA, srcA, elOk_bytes, if_true, and_self]
@[go_sem] theorem apS_sl (z by_ : Nat) (s : AV) (st : St) (new : List (List DV)) : apS z by_ H s (.d (.sl st new)) = if elOk z new = true then apB H z by_ s new else none := (rfl)
@[go_sem] theorem apS_tsl (z by_ : Nat) (s : AV) (t : Nat) (new : List (List DV)) : apS z by_ H s (.tsl t new) = if elOk z new = true then apB H z by_ s new else none := (rfl)
@[go_sem] theorem apB_sl (z by_ : Nat) (st : St) (es new : List (List DV)) : apB H z by_ (.d (.sl st es)) new = if st ≠ .any ∧ szOk z es = true ∧ (es.length + new.length) * (by_ + 1) ≤ 1099511627776 then some (.tsl H.length (es ++ new), H ++ [.tok z (es.length + new.length)]) else none := (rfl)
@[go_sem] theorem apB_tsl (z by_ tok : Nat) (es new : List (List DV)) : apB H z by_ (.tsl tok es) new = match H[tok]? with
    | some (.tok z' m) => if z' = z ∧ m = es.length ∧ szOk z es = true ∧ (es.length + new.length) * (by_ + 1) ≤ 1099511627776 then some (.tsl tok (es ++ new), H.set tok (.tok z (es.length + new.length))) else none
    | _ => none := (rfl)

/-! Equality and arithmetic -/
def eqBool (x y : AV) : Option Bool := match x, y with | .d (.bool a), .d (.bool b) => some (a == b) | _, _ => none
theorem eqA_Bool {t : TypeId} (h : tk P t = some .bool) (x y : AV) (c : Bool) : eqA P t x y c = eqBool x y := by simp only [eqA, h]; rfl
@[go_sem] theorem eqBool_eq (a b : Bool) : eqBool (.d (.bool a)) (.d (.bool b)) = some (a == b) := (rfl)
def eqFunc (x y : AV) : Option Bool := nilEq (isNilF x) (isNilF y) true
theorem eqA_Func {t : TypeId} (h : tk P t = some .func) (x y : AV) (c : Bool) : eqA P t x y c = eqFunc x y := by simp only [eqA, h]; rfl
def eqPtr (x y : AV) : Option Bool := nilEq (isNilP x) (isNilP y) true
theorem eqA_Ptr {t e : TypeId} (h : tk P t = some (.ptr e)) (x y : AV) (c : Bool) : eqA P t x y c = eqPtr x y := by simp only [eqA, h]; rfl
@[go_sem] theorem eqPtr_p_nil (id off : Nat) : eqPtr (.ptr id off) (.d .nilp) = some false := (rfl)
@[go_sem] theorem eqPtr_e_nil (cs : List DV) (off : Nat) : eqPtr (.d (.eptr cs off)) (.d .nilp) = some false := (rfl)
@[go_sem] theorem eqPtr_nil_nil : eqPtr (.d .nilp) (.d .nilp) = some true := (rfl)
def eqSt (ks : List LK) (x y : AV) : Option Bool := match x, y with | .d (.agg xs), .d (.agg ys) => eqCells ks xs ys | _, _ => none
theorem eqA_struct {t : TypeId} {fs : List (TypeId × Nat)} {ks : List LK} (h : tk P t = some (.struct fs)) (hk : eqOk P t = some ks) (x y : AV) (c : Bool) : eqA P t x y c = eqSt ks x y := by
  simp only [eqA, h, hk]; rfl
@[go_sem] theorem eqSt_eq (ks : List LK) (xs ys : List DV) : eqSt ks (.d (.agg xs)) (.d (.agg ys)) = eqCells ks xs ys := (rfl)
@[go_sem] theorem eqCells_nil : eqCells [] [] [] = some true := (rfl)
@[go_sem] theorem eqCells_cons' (k : LK) (ks : List LK) (x y : DV) (xs ys : List DV) : eqCells (k :: ks) (x :: xs) (y :: ys) = (match eq1D k x y, eqCells ks xs ys with | some c, some b => some (c && b) | _, _ => none) := by rw [eqCells]; rfl
@[go_sem] theorem eq1D_bool (a b : Bool) : eq1D .bool (.bool a) (.bool b) = some (a == b) := (rfl)
@[go_sem] theorem eq1D_str (a b : List UInt8) : eq1D .str (.str a) (.str b) = some (a == b) := (rfl)
@[go_sem] theorem eq1D_int (k : IntKind) (a b : Int) : eq1D (.int k) (.int k a) (.int k b) = some (a == b) := by simp [eq1D]

section
variable {t : TypeId} {c : Bool} {k k' : IntKind} {a b : Int} {K : AV → Prop}
@[go_sem] theorem binA_lss : binA P .lss t (.d (.int k a)) (.d (.int k b)) c = some (.d (.bool (decide (a < b)))) := by simp [binA, isSh, intA, dOpt]
@[go_sem] theorem binA_leq : binA P .leq t (.d (.int k a)) (.d (.int k b)) c = some (.d (.bool (decide (a ≤ b)))) := by simp [binA, isSh, intA, dOpt]
@[go_sem] theorem binA_gtr : binA P .gtr t (.d (.int k a)) (.d (.int k b)) c = some (.d (.bool (decide (b < a)))) := by simp [binA, isSh, intA, dOpt]
@[go_sem] theorem binA_geq : binA P .geq t (.d (.int k a)) (.d (.int k b)) c = some (.d (.bool (decide (b ≤ a)))) := by simp [binA, isSh, intA, dOpt]
@[go_sem] theorem binA_eql : binA P .eql t (.d (.int k a)) (.d (.int k b)) c = some (.d (.bool (decide (a = b)))) := by simp only [binA, isSh, intA, dOpt]; simp; by_cases h : a = b <;> simp [h]
@[go_sem] theorem binA_neq : binA P .neq t (.d (.int k a)) (.d (.int k b)) c = some (.d (.bool (!decide (a = b)))) := by simp only [binA, isSh, intA, dOpt]; simp; by_cases h : a = b <;> simp [h]
@[go_sem] theorem binA_add : binA P .add t (.d (.int k a)) (.d (.int k b)) c = some (.d (.int k (k.wrap (a + b)))) := by simp [binA, isSh, intA, dOpt]
@[go_sem] theorem binA_sub : binA P .sub t (.d (.int k a)) (.d (.int k b)) c = some (.d (.int k (k.wrap (a - b)))) := by simp [binA, isSh, intA, dOpt]
@[go_sem] theorem binA_mul : binA P .mul t (.d (.int k a)) (.d (.int k b)) c = some (.d (.int k (k.wrap (a * b)))) := by simp [binA, isSh, intA, dOpt]
@[go_sem] theorem binA_quo : oK (binA P .quo t (.d (.int k a)) (.d (.int k b)) c) K = ((b ≠ 0) ∧ K (.d (.int k (k.wrap (a.tdiv b))))) := by
  simp only [binA, isSh, intA, dOpt]; by_cases h : b = 0 <;> simp [h, oK]
@[go_sem] theorem binA_rem : oK (binA P .rem t (.d (.int k a)) (.d (.int k b)) c) K = ((b ≠ 0) ∧ K (.d (.int k (a.tmod b)))) := by
  simp only [binA, isSh, intA, dOpt]; by_cases h : b = 0 <;> simp [h, oK]
@[go_sem] theorem binA_and : binA P .and t (.d (.int k a)) (.d (.int k b)) c = some (.d (.int k (bits .and k a b))) := by simp [binA, isSh, intA, dOpt]
@[go_sem] theorem binA_or : binA P .or t (.d (.int k a)) (.d (.int k b)) c = some (.d (.int k (bits .or k a b))) := by simp [binA, isSh, intA, dOpt]
@[go_sem] theorem binA_xor : binA P .xor t (.d (.int k a)) (.d (.int k b)) c = some (.d (.int k (bits .xor k a b))) := by simp [binA, isSh, intA, dOpt]
@[go_sem] theorem binA_shl : oK (binA P .shl t (.d (.int k a)) (.d (.int k' b)) c) K = (0 ≤ b ∧ K (.d (.int k (k.wrap (a * 2 ^ (min b.toNat k.bits)))))) := by
  simp only [binA, isSh, shA, dOpt]
  by_cases h : b < 0
  · simp [h, oK]; omega
  · simp only [if_neg h]; simp [oK]; intro; omega
@[go_sem] theorem binA_shr : oK (binA P .shr t (.d (.int k a)) (.d (.int k' b)) c) K = (0 ≤ b ∧ K (.d (.int k (a.fdiv (2 ^ (min b.toNat k.bits)))))) := by
  simp only [binA, isSh, shA, dOpt]
  by_cases h : b < 0
  · simp [h, oK]; omega
  · simp only [if_neg h]; simp [oK]; intro; omega
@[go_sem] theorem binA_sadd (x y : List UInt8) : oK (binA P .add t (.d (.str x)) (.d (.str y)) c) K = (x.length + y.length ≤ 9223372036854775807 ∧ K (.d (.str (x ++ y)))) := by
  simp only [binA, strA, dOpt]; by_cases h : x.length + y.length ≤ 9223372036854775807 <;> simp [h, oK]
@[go_sem] theorem binA_seql (x y : List UInt8) : binA P .eql t (.d (.str x)) (.d (.str y)) c = some (.d (.bool (x == y))) := by simp [binA, strA, dOpt]
@[go_sem] theorem binA_sneq (x y : List UInt8) : binA P .neq t (.d (.str x)) (.d (.str y)) c = some (.d (.bool (!(x == y)))) := by simp [binA, strA, dOpt]
@[go_sem] theorem binA_beql (x y : Bool) : binA P .eql t (.d (.bool x)) (.d (.bool y)) c = (match eqA P t (.d (.bool x)) (.d (.bool y)) c with | some b => some (.d (.bool b)) | none => none) := (rfl)
@[go_sem] theorem binA_bneq (x y : Bool) : binA P .neq t (.d (.bool x)) (.d (.bool y)) c = (match eqA P t (.d (.bool x)) (.d (.bool y)) c with | some b => some (.d (.bool (!b))) | none => none) := (rfl)
@[go_sem] theorem binA_aeql (x y : List DV) : binA P .eql t (.d (.agg x)) (.d (.agg y)) c = (match eqA P t (.d (.agg x)) (.d (.agg y)) c with | some b => some (.d (.bool b)) | none => none) := (rfl)
@[go_sem] theorem binA_aneq (x y : List DV) : binA P .neq t (.d (.agg x)) (.d (.agg y)) c = (match eqA P t (.d (.agg x)) (.d (.agg y)) c with | some b => some (.d (.bool (!b))) | none => none) := (rfl)
end
@[go_sem] theorem unA_not (b : Bool) : unA .not (.d (.bool b)) = some (.d (.bool (!b))) := (rfl)
@[go_sem] theorem unA_neg (k : IntKind) (m : Int) : unA .neg (.d (.int k m)) = some (.d (.int k (k.wrap (0 - m)))) := (rfl)
@[go_sem] theorem pkA_eq (t : Bool) (a b : AV) : pkA (.d (.bool t)) a b = some (if t = true then a else b) := (rfl)
@[go_sem] theorem pkA_bool (t a b : Bool) : (if t = true then AV.d (.bool a) else .d (.bool b)) = .d (.bool (if t = true then a else b)) := by cases t <;> rfl
@[go_sem] theorem nckA_ptr (id off : Nat) : nckA (.ptr id off) = some (.ptr id off) := (rfl)
@[go_sem] theorem nckA_eptr (cs : List DV) (off : Nat) : nckA (.d (.eptr cs off)) = some (.d (.eptr cs off)) := (rfl)
@[go_sem] theorem nckA_func (f : FuncId) : nckA (.d (.func f)) = some (.d (.func f)) := (rfl)
@[go_sem] theorem nckA_clo (f : FuncId) (cs : List AV) : nckA (.clo f cs) = some (.clo f cs) := (rfl)
@[go_sem] theorem mfA_nil (f : FuncId) : mfA (.func f) [] [] = some (.d (.func f)) := (rfl)
@[go_sem] theorem mfA_cons (f : FuncId) (x : AV) (r : List AV) : mfA (.func f) [] (x :: r) = some (.clo f (x :: r)) := (rfl)
@[go_sem] theorem exA_d (xs : List DV) (i : Nat) : exA (.d (.tup xs)) i = match xs[i]? with | some y => some (.d y) | none => none := (rfl)
@[go_sem] theorem exA_a (xs : List AV) (i : Nat) : exA (.tup xs) i = xs[i]? := (rfl)
@[go_sem] theorem minA_eq (k : IntKind) (a b : Int) : minA (.d (.int k a)) (.d (.int k b)) = some (.d (.int k (if b < a then b else a))) := (rfl)
@[go_sem] theorem maxA_eq (k : IntKind) (a b : Int) : maxA (.d (.int k a)) (.d (.int k b)) = some (.d (.int k (if b > a then b else a))) := (rfl)

theorem cvX_int {s t : TypeId} {ks kt : IntKind} (h : tk P s = some (.int ks)) (h' : tk P t = some (.int kt)) (H : List HO) (k : IntKind) (n : Int) : cvX P H s t (.d (.int k n)) = some (.d (.int kt (kt.wrap n)), H) := by simp [cvX, cvA, h, h']
theorem cvX_str {s t : TypeId} (h : tk P s = some .string) (h' : tk P t = some .string) (H : List HO) (x : List UInt8) : cvX P H s t (.d (.str x)) = some (.d (.str x), H) := by simp [cvX, cvA, h, h']
def cvBy (H : List HO) (x : AV) : Option (AV × List HO) :=
  match x with
  | .d (.sl _ es) => match bytesOf es with | some l => some (.d (.str l), H) | none => none
  | .tsl _ es => match bytesOf es with | some l => some (.d (.str l), H) | none => none
  | .bsl id off len _ =>
    match H[id]? with
    | some (.box cs) =>
      if off + len ≤ cs.length then
        match allD ((cs.drop off).take len) with
        | some ds => match bytesOf (ds.map fun d => [d]) with | some l => some (.d (.str l), H) | none => none
        | none => none
      else none
    | _ => none
  | _ => none
theorem cvX_bytes {s t e : TypeId} (h : tk P s = some (.slice e)) (h' : tk P t = some .string) (he : tk P e = some (.int .u8)) (H : List HO) (x : AV) : cvX P H s t x = cvBy H x := by
  cases x with
  | d x => cases x with
    | sl st es => simp only [cvX, cvA, cvH, h, h', he, cvBy, cvB]; cases bytesOf es <;> rfl
    | _ => simp [cvX, cvA, cvH, h, h', cvBy]
  | tsl tok es => simp only [cvX, cvA, cvH, h, h', he, cvBy, cvB]; cases bytesOf es <;> rfl
  | bsl id off len cap =>
    simp only [cvX, cvA, cvH, h, h', he, cvBy]
    cases H[id]? with
    | none => rfl
    | some q => cases q <;> rfl
  | _ => simp [cvX, cvA, cvH, h, h', cvBy]
theorem cvX_sb {s t e : TypeId} (h : tk P s = some .string) (h' : tk P t = some (.slice e)) (he : tk P e = some (.int .u8)) (H : List HO) (x : List UInt8) : cvX P H s t (.d (.str x)) = some (.d (.sl .any (x.map byteEl)), H) := by
  simp [cvX, cvA, cvH, h, h', he]
@[go_sem] theorem cvBy_map (st : St) (l : List UInt8) : cvBy H (.d (.sl st (l.map byteEl))) = some (.d (.str l), H) := by simp [cvBy, bytesOf_map]
@[go_sem] theorem cvBy_tmap (tok : Nat) (l : List UInt8) : cvBy H (.tsl tok (l.map byteEl)) = some (.d (.str l), H) := by simp [cvBy, bytesOf_map]

/-! Boxes -/
def ldO (H : List HO) (o : Option AV) : Option (AV × List HO) := match o with | some r => some (r, H) | none => none
@[go_sem] theorem ldO_some (r : AV) : ldO H (some r) = some (r, H) := (rfl)
@[go_sem] theorem ldO_none : ldO H none = none := (rfl)
@[go_sem] theorem ldO_ite {c : Prop} [Decidable c] (o : Option AV) : ldO H (if c then o else none) = if c then ldO H o else none := by split <;> rfl
@[go_sem] theorem ldX_ptr (t : TypeId) (id off : Nat) : ldX P H t (.ptr id off) = (match H[id]? with
    | some (.box cs) => ldO H (partA P t cs off)
    | _ => none) := (rfl)
@[go_sem] theorem ldX_eptr (t : TypeId) (cs : List DV) (off : Nat) : ldX P H t (.d (.eptr cs off)) = ldO H (partA P t (cs.map .d) off) := (rfl)
theorem match_ite {c : Prop} [Decidable c] (o : Option AV) : (match (if c then o else none) with | some r => some (r, H) | none => none) = if c then (match o with | some r => some (r, H) | none => none) else none := by by_cases h : c <;> simp [h]
@[go_sem] theorem oH_pair_ite {c : Prop} [Decidable c] (r : AV) (K : AV → List HO → Prop) : oH (match (if c then some r else none) with | some r => some (r, H) | none => none) K = (c ∧ K r H) := by by_cases h : c <;> simp [h, oH]
@[go_sem] theorem cellsA_agg (cs : List DV) : cellsA (.d (.agg cs)) = some (cs.map .d) := (rfl)
@[go_sem] theorem cellsA_aagg (cs : List AV) : cellsA (.agg cs) = some cs := (rfl)
@[go_sem] theorem cellsA_int (k : IntKind) (n : Int) : cellsA (.d (.int k n)) = some [.d (.int k n)] := (rfl)
@[go_sem] theorem cellsA_bool (b : Bool) : cellsA (.d (.bool b)) = some [.d (.bool b)] := (rfl)
@[go_sem] theorem cellsA_str (s : List UInt8) : cellsA (.d (.str s)) = some [.d (.str s)] := (rfl)
@[go_sem] theorem cellsA_sl (st : St) (es : List (List DV)) : cellsA (.d (.sl st es)) = some [.d (.sl st es)] := (rfl)
@[go_sem] theorem cellsA_tsl (tok : Nat) (es : List (List DV)) : cellsA (.tsl tok es) = some [.tsl tok es] := (rfl)
@[go_sem] theorem cellsA_bsl (a b c d : Nat) : cellsA (.bsl a b c d) = some [.bsl a b c d] := (rfl)
@[go_sem] theorem cellsA_ptr (a b : Nat) : cellsA (.ptr a b) = some [.ptr a b] := (rfl)
@[go_sem] theorem cellsA_yld (id : Nat) : cellsA (.yld id) = some [.yld id] := (rfl)
@[go_sem] theorem cellsA_mp (id : Nat) : cellsA (.mp id) = some [.mp id] := (rfl)
@[go_sem] theorem cellsA_clo (f : FuncId) (cs : List AV) : cellsA (.clo f cs) = some [.clo f cs] := (rfl)
@[go_sem] theorem cellsA_func (f : FuncId) : cellsA (.d (.func f)) = some [.d (.func f)] := (rfl)
@[go_sem] theorem cellsA_nilf : cellsA (.d .nilf) = some [.d .nilf] := (rfl)
@[go_sem] theorem cellsA_nilp : cellsA (.d .nilp) = some [.d .nilp] := (rfl)
@[go_sem] theorem oneA_int (k : IntKind) (n : Int) : oneA (.d (.int k n)) = true := (rfl)
@[go_sem] theorem oneA_bool (b : Bool) : oneA (.d (.bool b)) = true := (rfl)
@[go_sem] theorem oneA_str (s : List UInt8) : oneA (.d (.str s)) = true := (rfl)
@[go_sem] theorem oneA_sl (st : St) (es : List (List DV)) : oneA (.d (.sl st es)) = true := (rfl)
@[go_sem] theorem oneA_tsl (tok : Nat) (es : List (List DV)) : oneA (.tsl tok es) = true := (rfl)
@[go_sem] theorem oneA_bsl (a b c d : Nat) : oneA (.bsl a b c d) = true := (rfl)
@[go_sem] theorem oneA_ptr (a b : Nat) : oneA (.ptr a b) = true := (rfl)
@[go_sem] theorem oneA_yld (id : Nat) : oneA (.yld id) = true := (rfl)
@[go_sem] theorem oneA_mp (id : Nat) : oneA (.mp id) = true := (rfl)
@[go_sem] theorem oneA_clo (f : FuncId) (cs : List AV) : oneA (.clo f cs) = true := (rfl)
@[go_sem] theorem oneA_func (f : FuncId) : oneA (.d (.func f)) = true := (rfl)
@[go_sem] theorem oneA_nilf : oneA (.d .nilf) = true := (rfl)
@[go_sem] theorem oneA_nilp : oneA (.d .nilp) = true := (rfl)
def stO (o : Option (List HO)) : Option (AV × List HO) := match o with | some H' => some (.d (.tup []), H') | none => none
@[go_sem] theorem stO_some (H' : List HO) : stO (some H') = some (.d (.tup []), H') := (rfl)
@[go_sem] theorem stO_none : stO none = none := (rfl)
@[go_sem] theorem stO_ite {c : Prop} [Decidable c] (o : Option (List HO)) : stO (if c then o else none) = if c then stO o else none := by split <;> rfl
@[go_sem] theorem stB_eq (t : TypeId) (id off : Nat) (y : AV) : stB P H t (.ptr id off) y = (match cellsA y with
    | some vc => if tsz P t = some vc.length then stO (stA H id off vc) else none
    | none => none) := by simp only [stB]; cases cellsA y <;> rfl
@[go_sem] theorem stA_eq (id off : Nat) (vc : List AV) : stA H id off vc = (match H[id]? with
  | some (.box cs) => if off + vc.length ≤ cs.length ∧ vc.all oneA = true then some (H.set id (.box (cs.take off ++ vc ++ cs.drop (off + vc.length)))) else none
  | _ => none) := (rfl)
@[go_sem] theorem mkAgg_eq (cs : List AV) : mkAgg cs = (match allD cs with | some ds => .d (.agg ds) | none => .agg cs) := (rfl)
@[go_sem] theorem mkTup_eq (cs : List AV) : mkTup cs = (match allD cs with | some ds => .d (.tup ds) | none => .tup cs) := (rfl)
@[go_sem] theorem allD_nil : allD [] = some [] := (rfl)
@[go_sem] theorem allD_cons (x : DV) (r : List AV) : allD (.d x :: r) = (allD r).map (x :: ·) := (rfl)
@[go_sem] theorem allD_ptr (a b : Nat) (r : List AV) : allD (.ptr a b :: r) = none := (rfl)
@[go_sem] theorem allD_tsl (a : Nat) (b : List (List DV)) (r : List AV) : allD (.tsl a b :: r) = none := (rfl)
@[go_sem] theorem allD_bsl (a b c d : Nat) (r : List AV) : allD (.bsl a b c d :: r) = none := (rfl)
@[go_sem] theorem allD_yld (a : Nat) (r : List AV) : allD (.yld a :: r) = none := (rfl)
@[go_sem] theorem allD_mp (a : Nat) (r : List AV) : allD (.mp a :: r) = none := (rfl)
@[go_sem] theorem allD_clo (a : FuncId) (b : List AV) (r : List AV) : allD (.clo a b :: r) = none := (rfl)
theorem allD_map (ds : List DV) : allD (ds.map .d) = some ds := by induction ds <;> simp_all [allD]
@[go_sem] theorem chunk_zero (s : Nat) (ds : List DV) : chunk s 0 ds = [] := (rfl)
@[go_sem] theorem chunk_succ (s k : Nat) (ds : List DV) : chunk s (k + 1) ds = ds.take s :: chunk s k (ds.drop s) := (rfl)

/-! Results -/
@[go_sem] theorem retL_nil (e : Env) : retL P H e [] = some [] := (rfl)
@[go_sem] theorem retL_cons (e : Env) (r : ResultVar) (rs : List ResultVar) : retL P H e (r :: rs) = (match retA P H e r, retL P H e rs with | some x, some xs => some (x :: xs) | _, _ => none) := by rw [retL]; rfl
@[go_sem] theorem retA_tmp (e : Env) (t : Nat) : retA P H e (.tmp t) = some (e t) := (rfl)
def retC (P : Program) (H : List HO) (ty : TypeId) (x : AV) : Option AV :=
  match x with
  | .ptr id off => match H[id]? with
      | some (.box cs) => partA P ty cs off
      | _ => none
  | _ => none
@[go_sem] theorem retA_cell (e : Env) (a : Nat) (ty : TypeId) : retA P H e (.cell a ty) = retC P H ty (e a) := (rfl)
@[go_sem] theorem retC_eq (ty : TypeId) (id off : Nat) : retC P H ty (.ptr id off) = (match H[id]? with | some (.box cs) => partA P ty cs off | _ => none) := (rfl)
@[go_sem] theorem resA_one (e : Env) (a : ResultVar) : resA P H e [a] = retA P H e a := by simp only [resA, retL]; cases retA P H e a <;> rfl
@[go_sem] theorem resA_two (e : Env) (a b : ResultVar) (rs : List ResultVar) : resA P H e (a :: b :: rs) = (match retL P H e (a :: b :: rs) with | some xs => some (mkTup xs) | none => none) := by
  simp only [resA]
  have : ∀ x, retL P H e (a :: b :: rs) ≠ some [x] := fun x h => by
    simp only [retL] at h
    revert h
    generalize retA P H e a = o1
    generalize retA P H e b = o2
    generalize retL P H e rs = o3
    cases o1 <;> cases o2 <;> cases o3 <;> simp
  generalize retL P H e (a :: b :: rs) = o at this ⊢
  match o with
  | none => rfl
  | some [] => rfl
  | some [x] => exact absurd rfl (this x)
  | some (_ :: _ :: _) => rfl
def finD (o : Option AV) (r : DV) : Prop := match o with | some y => retD y = some r | none => False
@[congr] theorem finD_congr {o o' : Option AV} {r : DV} (h : o = o') : finD o r = finD o' r := by rw [h]
@[go_sem] theorem finP_ret (rs : Array ResultVar) (r : DV) (e : Env) : finP P rs r .ret e H = finD (resA P H e rs.toList) r := by
  simp only [finP, finD, eq_iff_iff]
  cases resA P H e rs.toList <;> simp
@[go_sem] theorem finP_normal (rs : Array ResultVar) (r : DV) (e : Env) : finP P rs r .normal e H = finD (resA P H e rs.toList) r := by
  simp only [finP, finD, eq_iff_iff]
  cases resA P H e rs.toList <;> simp
@[go_sem] theorem finD_some (y : AV) (r : DV) : finD (some y) r = (retD y = some r) := (rfl)
@[go_sem] theorem finW_ret (rs : Array ResultVar) (r : AV) (H' : List HO) (e : Env) : finW P rs r H' .ret e H = (resA P H e rs.toList = some r ∧ H = H') := (rfl)
@[go_sem] theorem finW_normal (rs : Array ResultVar) (r : AV) (H' : List HO) (e : Env) : finW P rs r H' .normal e H = (resA P H e rs.toList = some r ∧ H = H') := (rfl)
@[go_sem] theorem retD_d (x : DV) : retD (.d x) = some (normD x) := (rfl)
@[go_sem] theorem retD_tsl (t : Nat) (es : List (List DV)) : retD (.tsl t es) = some (.sl .any es) := (rfl)
@[go_sem] theorem retD_agg (cs : List AV) : retD (.agg cs) = (match retDL cs with | some ds => some (.agg ds) | none => none) := by rw [retD]; rfl
@[go_sem] theorem retD_tup (cs : List AV) : retD (.tup cs) = (match retDL cs with | some ds => some (.tup ds) | none => none) := by rw [retD]; rfl
@[go_sem] theorem retDL_nil : retDL [] = some [] := by rw [retDL]
@[go_sem] theorem retDL_cons (x : AV) (r : List AV) : retDL (x :: r) = (match retD x, retDL r with | some y, some ys => some (y :: ys) | _, _ => none) := by rw [retDL]; rfl
@[go_sem] theorem normD_int (k : IntKind) (n : Int) : normD (.int k n) = .int k n := by rw [normD]
@[go_sem] theorem normD_bool (b : Bool) : normD (.bool b) = .bool b := by rw [normD]
@[go_sem] theorem normD_str (s : List UInt8) : normD (.str s) = .str s := by rw [normD]
@[go_sem] theorem normD_sl (st : St) (es : List (List DV)) : normD (.sl st es) = .sl .any es := by rw [normD]
@[go_sem] theorem normD_agg (cs : List DV) : normD (.agg cs) = .agg (normDL cs) := by rw [normD]
@[go_sem] theorem normD_tup (cs : List DV) : normD (.tup cs) = .tup (normDL cs) := by rw [normD]
@[go_sem] theorem normD_func (f : FuncId) : normD (.func f) = .func f := by rw [normD]
@[go_sem] theorem normD_nilp : normD .nilp = .nilp := by rw [normD]
@[go_sem] theorem normD_nilf : normD .nilf = .nilf := by rw [normD]
@[go_sem] theorem normDL_nil : normDL [] = [] := by rw [normDL]
@[go_sem] theorem normDL_cons (x : DV) (r : List DV) : normDL (x :: r) = normD x :: normDL r := by rw [normDL]
@[go_sem] theorem normAL_nil : normAL [] = [] := by rw [normAL]
@[go_sem] theorem normAL_cons (x : AV) (r : List AV) : normAL (x :: r) = normA x :: normAL r := by rw [normAL]
@[go_sem] theorem normA_d (x : DV) : normA (.d x) = .d (normD x) := by rw [normA]
@[go_sem] theorem normA_tsl (t : Nat) (es : List (List DV)) : normA (.tsl t es) = .d (.sl .any es) := by rw [normA]
@[go_sem] theorem normA_ptr (a b : Nat) : normA (.ptr a b) = .ptr a b := by rw [normA]
@[go_sem] theorem normA_yld (id : Nat) : normA (.yld id) = .yld id := by rw [normA]
@[go_sem] theorem normA_mp (id : Nat) : normA (.mp id) = .mp id := by rw [normA]
@[go_sem] theorem normA_clo (f : FuncId) (cs : List AV) : normA (.clo f cs) = .clo f cs := by rw [normA]
@[go_sem] theorem normA_agg (cs : List AV) : normA (.agg cs) = mkAgg (normAL cs) := by rw [normA]

/-! Wraps -/
theorem u8_lt (b : UInt8) : (b.toNat : Int) < 256 := by have := b.toNat_lt; omega
@[go_sem] theorem wrap_i64_u8 (b : UInt8) : IntKind.wrap .i64 (b.toNat : Int) = b.toNat := wrap_i64 (by omega) (by have := u8_lt b; omega)
@[go_sem] theorem wrap_i32_u8 (b : UInt8) : IntKind.wrap .i32 (b.toNat : Int) = b.toNat := wrap_i32 (by omega) (by have := u8_lt b; omega)
@[go_sem] theorem wrap_u8_u8 (b : UInt8) : IntKind.wrap .u8 (b.toNat : Int) = b.toNat := by rw [wrap_u8]; have := u8_lt b; omega

/-! Regions whose order is open -/
def oT (o : Option AV) (k : AV → Prop) : Prop := oK o k
section
variable {all : Array Oper} {os : List Oper} {cs : List Cls} {Q : List Cls → Env → List HO → Prop} {e : Env} {d : Option Tmp} {T : TypeId} {p : String} {af : Array Edge}
def kT (P : Program) (G : Gl) (all : Array Oper) (os : List Oper) (cs : List Cls) (Q : List Cls → Env → List HO → Prop) (e : Env) (H : List HO) (d : Option Tmp) : AV → Prop := fun r => trW P G all os (cs ++ [.pure]) Q (updO e d r) H
def kTH (P : Program) (G : Gl) (all : Array Oper) (os : List Oper) (cs : List Cls) (c : Cls) (Q : List Cls → Env → List HO → Prop) (e : Env) (d : Option Tmp) : AV → List HO → Prop := fun r H => trW P G all os (cs ++ [c]) Q (updO e d r) H
@[go_sem] theorem kT_eq (r : AV) : kT P G all os cs Q e H d r = trW P G all os (cs ++ [.pure]) Q (updO e d r) H := (rfl)
@[go_sem] theorem kTH_eq (c : Cls) (r : AV) (H : List HO) : kTH P G all os cs c Q e d r H = trW P G all os (cs ++ [c]) Q (updO e d r) H := (rfl)
@[go_sem] theorem trW_nil : trW P G all [] cs Q e H = Q cs e H := (rfl)
def gT (P : Program) (G : Gl) (c : Option Bool) (all : Array Oper) (o : Oper) (os : List Oper) (cs : List Cls) (Q : List Cls → Env → List HO → Prop) (e : Env) (H : List HO) : Prop := gW c (trW P G all (o :: os) cs Q e H) (trW P G all os (cs ++ [.pure]) Q (updO e o.dst (.d (.tup []))) H)
@[congr] theorem gT_congr {c c' : Option Bool} {o : Oper} {e e' : Env} (h : c = c') (h' : e = e') : gT P G c all o os cs Q e H = gT P G c' all o os cs Q e' H := by rw [h, h']
@[go_sem] theorem gT_true (o : Oper) : gT P G (some true) all o os cs Q e H = trW P G all (o :: os) cs Q e H := (rfl)
@[go_sem] theorem gT_false (op : Op) (g : Option (Nat × Bool)) : gT P G (some false) all ⟨d, op, T, p, af, g⟩ os cs Q e H = trW P G all os (cs ++ [.pure]) Q (updO e d (.d (.tup []))) H := (rfl)
theorem gT_split {b : Bool} {o : Oper} (h1 : b = true → gT P G (some true) all o os cs Q e H) (h2 : b = false → gT P G (some false) all o os cs Q e H) : gT P G (some b) all o os cs Q e H := by
  cases b
  · exact h2 rfl
  · exact h1 rfl
@[go_sem] theorem trW_guard (op : Op) (j : Nat) (b : Bool) : trW P G all (⟨d, op, T, p, af, some (j, b)⟩ :: os) cs Q e H = gT P G (wantA all e (some (j, b))) all ⟨d, op, T, p, af, none⟩ os cs Q e H := (rfl)
theorem trW_of_pst {op : Op} (h : hst P G e H op = none) (h' : ∀ Q', opCallT P G e H op Q' = False) : trW P G all (⟨d, op, T, p, af, none⟩ :: os) cs Q e H = oK (pst P G e op) (kT P G all os cs Q e H d) := by
  simp only [trW, wantA, gW, stepT, h, h']
  cases pst P G e op <;> rfl
theorem trW_of_hst {op : Op} {c : Cls} (h : pst P G e op = none) (h' : ∀ Q', opCallT P G e H op Q' = False) (hc : ∀ r, hcls G e H op r = c) : trW P G all (⟨d, op, T, p, af, none⟩ :: os) cs Q e H = oH (hst P G e H op) (kTH P G all os cs c Q e d) := by
  simp only [trW, wantA, gW, stepT, h, h', hc]
  cases hst P G e H op <;> rfl
def ldC (x : AV) : Cls := match x with | .ptr id _ => .rdo id | _ => .read
def luC (x : AV) : Cls := match x with | .mp id => .rdo id | _ => .read
def stC (x : AV) : Cls := match x with | .ptr id _ => .wro id | _ => .write
def bsC (r : AV) : Cls := match r with | .d _ => .fresh | _ => .write
@[go_sem] theorem ldC_ptr (a b : Nat) : ldC (.ptr a b) = .rdo a := (rfl)
@[go_sem] theorem luC_mp (a : Nat) : luC (.mp a) = .rdo a := (rfl)
@[go_sem] theorem stC_ptr (a b : Nat) : stC (.ptr a b) = .wro a := (rfl)
@[go_sem] theorem bsC_d (x : DV) : bsC (.d x) = .fresh := (rfl)
@[go_sem] theorem bsC_bsl (a b c d : Nat) : bsC (.bsl a b c d) = .write := (rfl)
@[go_sem] theorem apC_tsl (a : Nat) (es : List (List DV)) (n : Nat) : apC (.tsl a es) n = .wro a := (rfl)
@[go_sem] theorem apC_d (x : DV) (n : Nat) : apC (.d x) n = .wro n := (rfl)
def kTB (P : Program) (G : Gl) (all : Array Oper) (os : List Oper) (cs : List Cls) (Q : List Cls → Env → List HO → Prop) (e : Env) (d : Option Tmp) : AV → List HO → Prop := fun r H => trW P G all os (cs ++ [bsC r]) Q (updO e d r) H
@[go_sem] theorem kTB_eq (r : AV) (H : List HO) : kTB P G all os cs Q e d r H = trW P G all os (cs ++ [bsC r]) Q (updO e d r) H := (rfl)
@[go_sem] theorem trW_move (x : Operand) : trW P G all (⟨d, .move x, T, p, af, none⟩ :: os) cs Q e H = trW P G all os (cs ++ [.pure]) Q (updO e d (ev G e x)) H := (rfl)
@[go_sem] theorem trW_assign (x : Operand) : trW P G all (⟨d, .assign x, T, p, af, none⟩ :: os) cs Q e H = trW P G all os (cs ++ [.pure]) Q (updO e d (ev G e x)) H := (rfl)
@[go_sem] theorem trW_pick (a b c : Operand) : trW P G all (⟨d, .pick a b c, T, p, af, none⟩ :: os) cs Q e H = oK (pkA (ev G e a) (ev G e b) (ev G e c)) (kT P G all os cs Q e H d) := trW_of_pst rfl (fun _ => rfl)
@[go_sem] theorem trW_nilCheck (x : Operand) : trW P G all (⟨d, .nilCheck x, T, p, af, none⟩ :: os) cs Q e H = oK (nckA (ev G e x)) (kT P G all os cs Q e H d) := trW_of_pst rfl (fun _ => rfl)
@[go_sem] theorem trW_binOp (op : BinOp) (t yt : TypeId) (x y : Operand) : trW P G all (⟨d, .binOp op t x y yt, T, p, af, none⟩ :: os) cs Q e H = oK (binA P op t (ev G e x) (ev G e y) (isC x || isC y)) (kT P G all os cs Q e H d) := trW_of_pst rfl (fun _ => rfl)
@[go_sem] theorem trW_unOp (op : UnOp) (t : TypeId) (x : Operand) : trW P G all (⟨d, .unOp op t x, T, p, af, none⟩ :: os) cs Q e H = oK (unA op (ev G e x)) (kT P G all os cs Q e H d) := trW_of_pst rfl (fun _ => rfl)
@[go_sem] theorem trW_fieldAddr (t : TypeId) (x : Operand) (f : Nat) : trW P G all (⟨d, .fieldAddr t x f, T, p, af, none⟩ :: os) cs Q e H = oK (faA P t (ev G e x) f) (kT P G all os cs Q e H d) := trW_of_pst rfl (fun _ => rfl)
@[go_sem] theorem trW_field (t : TypeId) (x : Operand) (f : Nat) : trW P G all (⟨d, .field t x f, T, p, af, none⟩ :: os) cs Q e H = oK (fieldA P t (ev G e x) f) (kT P G all os cs Q e H d) := trW_of_pst rfl (fun _ => rfl)
@[go_sem] theorem trW_indexAddr (t : TypeId) (x i : Operand) : trW P G all (⟨d, .indexAddr t x i, T, p, af, none⟩ :: os) cs Q e H = oK (iaA P t (ev G e x) (ev G e i)) (kT P G all os cs Q e H d) := trW_of_pst rfl (fun _ => rfl)
@[go_sem] theorem trW_index (t : TypeId) (x i : Operand) : trW P G all (⟨d, .index t x i, T, p, af, none⟩ :: os) cs Q e H = oK (ixA P t (ev G e x) (ev G e i)) (kT P G all os cs Q e H d) := trW_of_pst rfl (fun _ => rfl)
@[go_sem] theorem trW_slice (t : TypeId) (x : Operand) (lo hi mx : Option Operand) : trW P G all (⟨d, .slice t x lo hi mx, T, p, af, none⟩ :: os) cs Q e H = oK (slA P t (ev G e x) (lo.map (ev G e)) (hi.map (ev G e)) (mx.map (ev G e))) (kT P G all os cs Q e H d) := trW_of_pst rfl (fun _ => rfl)
@[go_sem] theorem trW_extract (x : Operand) (i : Nat) : trW P G all (⟨d, .extract x i, T, p, af, none⟩ :: os) cs Q e H = oK (exA (ev G e x) i) (kT P G all os cs Q e H d) := trW_of_pst rfl (fun _ => rfl)
@[go_sem] theorem trW_makeFunc (fn : Go.Fn) (a b : List Operand) : trW P G all (⟨d, .makeFunc fn ⟨a⟩ ⟨b⟩, T, p, af, none⟩ :: os) cs Q e H = oK (mfA fn (a.map (ev G e)) (b.map (ev G e))) (kT P G all os cs Q e H d) := trW_of_pst rfl (fun _ => rfl)
@[go_sem] theorem trW_build (t : TypeId) (ps : List (Nat × Operand)) : trW P G all (⟨d, .build t ⟨ps⟩, T, p, af, none⟩ :: os) cs Q e H = oK (bldA P t (ps.map fun q => (q.1, ev G e q.2))) (kT P G all os cs Q e H d) := trW_of_pst rfl (fun _ => rfl)
@[go_sem] theorem trW_makeInterface (t : TypeId) (x : Operand) : trW P G all (⟨d, .makeInterface t x, T, p, af, none⟩ :: os) cs Q e H = oK (miA P t (ev G e x)) (kT P G all os cs Q e H d) := trW_of_pst rfl (fun _ => rfl)
@[go_sem] theorem trW_len (x : Operand) (t : TypeId) : trW P G all (⟨d, .call ⟨.builtin .len, ⟨[x]⟩, ⟨[t]⟩⟩, T, p, af, none⟩ :: os) cs Q e H = oK (lnA P t (ev G e x)) (kT P G all os cs Q e H d) := trW_of_pst rfl (fun _ => rfl)
@[go_sem] theorem trW_lookup (t : TypeId) (x k : Operand) (ok : Bool) : trW P G all (⟨d, .lookup t x k ok, T, p, af, none⟩ :: os) cs Q e H = oH (luA P H t (ev G e x) (ev G e k) ok) (kTH P G all os cs (luC (ev G e x)) Q e d) := trW_of_hst rfl (fun _ => rfl) (fun _ => rfl)
@[go_sem] theorem trW_min (x y : Operand) (ts : Array TypeId) : trW P G all (⟨d, .call ⟨.builtin .min, ⟨[x, y]⟩, ts⟩, T, p, af, none⟩ :: os) cs Q e H = oK (minA (ev G e x) (ev G e y)) (kT P G all os cs Q e H d) := trW_of_pst rfl (fun _ => rfl)
@[go_sem] theorem trW_max (x y : Operand) (ts : Array TypeId) : trW P G all (⟨d, .call ⟨.builtin .max, ⟨[x, y]⟩, ts⟩, T, p, af, none⟩ :: os) cs Q e H = oK (maxA (ev G e x) (ev G e y)) (kT P G all os cs Q e H d) := trW_of_pst rfl (fun _ => rfl)
@[go_sem] theorem trW_alloc (t : TypeId) : trW P G all (⟨d, .alloc t, T, p, af, none⟩ :: os) cs Q e H = oH (alA P H t) (kTH P G all os cs (.wro H.length) Q e d) := by
  rw [← alA_eq]; exact trW_of_hst rfl (fun _ => rfl) (fun _ => rfl)
@[go_sem] theorem trW_box (t : TypeId) (x : Operand) : trW P G all (⟨d, .box t x, T, p, af, none⟩ :: os) cs Q e H = oH (match cellsA (ev G e x) with | some cs => some (.ptr H.length 0, H ++ [.box cs]) | none => none) (kTH P G all os cs (.wro H.length) Q e d) := trW_of_hst rfl (fun _ => rfl) (fun _ => rfl)
@[go_sem] theorem trW_store (t : TypeId) (x y : Operand) : trW P G all (⟨d, .store t x y, T, p, af, none⟩ :: os) cs Q e H = oH (stB P H t (ev G e x) (ev G e y)) (kTH P G all os cs (stC (ev G e x)) Q e d) := trW_of_hst rfl (fun _ => rfl) (fun _ => rfl)
@[go_sem] theorem trW_makeSlice (t : TypeId) (x y : Operand) : trW P G all (⟨d, .makeSlice t x y, T, p, af, none⟩ :: os) cs Q e H = oH (if isZ x = true then mkZ P H t (ev G e y) else mkA P H t (ev G e x) (ev G e y)) (kTH P G all os cs .write Q e d) := trW_of_hst rfl (fun _ => rfl) (fun _ => rfl)
@[go_sem] theorem trW_buildSlice (t : TypeId) (n : Nat) (ps : List (Nat × Operand)) : trW P G all (⟨d, .buildSlice t n ⟨ps⟩, T, p, af, none⟩ :: os) cs Q e H = oH (bsA P H t n (ps.map fun q => (q.1, ev G e q.2))) (kTB P G all os cs Q e d) := by
  simp only [trW, wantA, gW, stepT, pst, hst]
  cases bsA P H t n (ps.map fun q => (q.1, ev G e q.2)) <;> rfl
@[go_sem] theorem trW_append (s x : Operand) (tS tX : TypeId) : trW P G all (⟨d, .call ⟨.builtin .append, ⟨[s, x]⟩, ⟨[tS, tX]⟩⟩, T, p, af, none⟩ :: os) cs Q e H = oH (apA P H tS tX (ev G e s) (ev G e x)) (kTH P G all os cs (apC (ev G e s) H.length) Q e d) := trW_of_hst rfl (fun _ => rfl) (fun _ => rfl)
def ldT (P : Program) (H : List HO) (t : TypeId) (x : AV) (kp : AV → Prop) (kh : AV → List HO → Prop) : Prop :=
  match x with
  | .d y => oK (ldA P t (.d y)) kp
  | y => oH (ldX P H t y) kh
@[congr] theorem ldT_congr {t : TypeId} {x y : AV} {H H' : List HO} {kp : AV → Prop} {kh : AV → List HO → Prop} (h : x = y) (h' : H = H') : ldT P H t x kp kh = ldT P H' t y kp kh := by rw [h, h']
@[go_sem] theorem ldT_d (t : TypeId) (y : DV) (kp : AV → Prop) (kh : AV → List HO → Prop) : ldT P H t (.d y) kp kh = oK (ldA P t (.d y)) kp := (rfl)
@[go_sem] theorem ldT_ptr (t : TypeId) (a b : Nat) (kp : AV → Prop) (kh : AV → List HO → Prop) : ldT P H t (.ptr a b) kp kh = oH (ldX P H t (.ptr a b)) kh := (rfl)
@[go_sem] theorem trW_load (t : TypeId) (x : Operand) : trW P G all (⟨d, .load t x, T, p, af, none⟩ :: os) cs Q e H = ldT P H t (ev G e x) (kT P G all os cs Q e H d) (kTH P G all os cs (ldC (ev G e x)) Q e d) := by
  have hc : ∀ r, hcls G e H (.load t x) r = ldC (ev G e x) := fun _ => rfl
  simp only [trW, wantA, gW, stepT, pst, hst, ldB, ldX, opCallT, ldT, hc]
  cases ev G e x with
  | d y =>
    simp only
    cases ldA P t (.d y) <;> rfl
  | ptr id off =>
    simp only [ldA]
    cases H[id]? with
    | none => rfl
    | some o => cases o with
      | box cs' => simp only; cases partA P t cs' off <;> rfl
      | _ => rfl
  | _ => rfl
@[go_sem] theorem ldA_eptr (t : TypeId) (cs : List DV) (off : Nat) : ldA P t (.d (.eptr cs off)) = partA P t (cs.map .d) off := (rfl)
def cvT (P : Program) (H : List HO) (s t : TypeId) (x : AV) (kp : AV → Prop) (kh : AV → List HO → Prop) : Prop := match cvA P s t x with | some r => kp r | none => oH (cvH P H s t x) kh
@[go_sem] theorem trW_convert (s t : TypeId) (x : Operand) : trW P G all (⟨d, .convert s t x, T, p, af, none⟩ :: os) cs Q e H = cvT P H s t (ev G e x) (kT P G all os cs Q e H d) (kTH P G all os cs .read Q e d) := by
  simp only [trW, wantA, gW, stepT, pst, hst, cvT, opCallT]
  cases cvA P s t (ev G e x) with
  | some r => rfl
  | none =>
    simp only
    cases cvH P H s t (ev G e x) <;> rfl
@[congr] theorem cvT_congr {s t : TypeId} {x y : AV} {H H' : List HO} {kp : AV → Prop} {kh : AV → List HO → Prop} (h : x = y) (h' : H = H') : cvT P H s t x kp kh = cvT P H' s t y kp kh := by rw [h, h']
theorem cvT_some {s t : TypeId} {x r : AV} {kp : AV → Prop} {kh : AV → List HO → Prop} (h : cvA P s t x = some r) : cvT P H s t x kp kh = kp r := by simp [cvT, h]

/-- A call in a region whose order is open. -/
def callKT (P : Program) (G : Gl) (fv : AV) (args : List AV) (H : List HO) (k : Cls → AV → List HO → Prop) : Prop := callT P G fv args H k
@[congr] theorem callKT_congr {fv fv' : AV} {args args' : List AV} {H H' : List HO} {k : Cls → AV → List HO → Prop} (h : fv = fv') (h' : args = args') (h'' : H = H') : callKT P G fv args H k = callKT P G fv' args' H' k := by rw [h, h', h'']
def kC (P : Program) (G : Gl) (all : Array Oper) (os : List Oper) (cs : List Cls) (Q : List Cls → Env → List HO → Prop) (e : Env) (d : Option Tmp) : Cls → AV → List HO → Prop := fun c r H => trW P G all os (cs ++ [c]) Q (updO e d r) H
@[go_sem] theorem kC_eq (c : Cls) (r : AV) (H : List HO) : kC P G all os cs Q e d c r H = trW P G all os (cs ++ [c]) Q (updO e d r) H := (rfl)
@[go_sem] theorem trW_call (f : Operand) (args : List Operand) (ts : Array TypeId) : trW P G all (⟨d, .call ⟨.value f, ⟨args⟩, ts⟩, T, p, af, none⟩ :: os) cs Q e H = callKT P G (ev G e f) (args.map (ev G e)) H (kC P G all os cs Q e d) := (rfl)
theorem callKT_pf {f : FuncId} {args : List AV} {ds : List DV} {r : DV} {k : Cls → AV → List HO → Prop} (h : PF P G f ds r) (ha : normAL args = ds.map .d) (hk : k .pure (.d r) H) : callKT P G (.d (.func f)) args H k := by
  simp only [callKT, callT, ha, allD_map]
  exact ⟨r, h, hk⟩
theorem callKT_fn {f : FuncId} {args as : List AV} {r : AV} {H' : List HO} {k : Cls → AV → List HO → Prop} (h : Fn P G f as H r H') (ha : normAL args = as) (hn : allD as = none) (hk : k .write r H') : callKT P G (.d (.func f)) args H k := by
  simp only [callKT, callT, ha, hn]
  exact ⟨r, H', .write, h, trivial, hk⟩
theorem callKT_fr {f : FuncId} {args as : List AV} {r : AV} {k : Cls → AV → List HO → Prop} (h : Fn P G f as H r H) (ha : normAL args = as) (hn : allD as = none) (hk : k .read r H) : callKT P G (.d (.func f)) args H k := by
  simp only [callKT, callT, ha, hn]
  exact ⟨r, H, .read, h, rfl, hk⟩
theorem callKT_clo {f : FuncId} {args as caps : List AV} {r : AV} {H' : List HO} {k : Cls → AV → List HO → Prop} (h : Fn P G f as H r H') (ha : normAL args ++ caps = as) (hk : k .write r H') : callKT P G (.clo f caps) args H k := by
  simp only [callKT, callT]
  exact ⟨r, H', .write, by rw [ha]; exact h, trivial, hk⟩
theorem callKT_clr {f : FuncId} {args as caps : List AV} {r : AV} {k : Cls → AV → List HO → Prop} (h : Fn P G f as H r H) (ha : normAL args ++ caps = as) (hk : k .read r H) : callKT P G (.clo f caps) args H k := by
  simp only [callKT, callT]
  exact ⟨r, H, .read, by rw [ha]; exact h, rfl, hk⟩
end
end Go.Proofs.YtjmldlknegbimaaGreatDoor.Sx

/- Lists, options, numbers in the rule set; the rule for loops. Own library, part 17. -/
set_option linter.unusedVariables false
set_option linter.unusedSimpArgs false
namespace Go.Proofs.YtjmldlknegbimaaGreatDoor.Sx
open Go Go.RowKit

attribute [go_sem] List.length_cons List.length_nil List.nil_append List.cons_append List.getElem?_cons_zero List.getElem?_cons_succ List.getElem?_nil List.set_cons_zero List.set_cons_succ List.take_succ_cons List.take_zero List.take_nil
  List.drop_zero List.drop_succ_cons List.drop_nil List.all_cons List.all_nil List.append_nil List.map_cons List.map_nil Option.map_some Option.map_none Bool.and_self Bool.and_true Bool.true_and Bool.and_false Bool.false_and Bool.or_true Bool.or_false Bool.true_or Bool.false_or
  true_and and_true and_self not_true_eq_false not_false_eq_true beq_self_eq_true Bool.not_true Bool.not_false beq_true beq_false Bool.not_not decide_true decide_false  ne_eq
  Nat.add_zero Nat.zero_add Nat.zero_le Option.some.injEq List.length_append List.length_map List.length_set List.length_replicate Nat.le_refl exists_prop Int.toNat_natCast Bool.false_eq_true Bool.true_eq_false if_true if_false reduceCtorEq

@[go_sem] theorem getD_cons_zero' {α : Type} (x : α) (l : List α) (d : α) : (x :: l).getD 0 d = x := (rfl)

@[go_sem] theorem drawQ_eq (ops : Array Oper) (Q : Exit → Env → List HO → Prop) (cs : List Cls) (e : Env) (H : List HO) : drawQ ops Q cs e H = (drawOk ops cs = true ∧ Q .normal e H) := (rfl)
theorem toProp {p : Prop} [Decidable p] (h : decide p = true) : p := of_decide_eq_true h
theorem toNot {p : Prop} [Decidable p] (h : decide p = false) : ¬ p := of_decide_eq_false h

section
variable {P : Program} {G : Gl} {n0 : Nat} {b : Bool} {o : Oper} {all : Array Oper} {os : List Oper} {e : Env} {H : List HO} {cs : List Cls}
theorem gO_not {Q : Env → List HO → Prop} (h1 : b = false → gO P G (some true) all o os Q e H) (h2 : b = true → gO P G (some false) all o os Q e H) : gO P G (some (!b)) all o os Q e H := by
  cases b
  · exact h1 rfl
  · exact h2 rfl
theorem gT_not {Q : List Cls → Env → List HO → Prop} (h1 : b = false → gT P G (some true) all o os cs Q e H) (h2 : b = true → gT P G (some false) all o os cs Q e H) : gT P G (some (!b)) all o os cs Q e H := by
  cases b
  · exact h1 rfl
  · exact h2 rfl
theorem condW_not {x y : Code} {Q : Exit → Env → List HO → Prop} (h1 : b = false → wpc P G n0 x Q e H) (h2 : b = true → wpc P G n0 y Q e H) : condW P G n0 (.d (.bool (!b))) x y Q e H := by
  cases b
  · exact h1 rfl
  · exact h2 rfl
end

section
variable {P : Program} {H : List HO} {kp : AV → Prop} {kh : AV → List HO → Prop}
theorem cvT_int {s t : TypeId} {ks kt : IntKind} (h : tk P s = some (.int ks)) (h' : tk P t = some (.int kt)) (H : List HO) (k : IntKind) (n : Int) (kp : AV → Prop) (kh : AV → List HO → Prop) : cvT P H s t (.d (.int k n)) kp kh = kp (.d (.int kt (kt.wrap n))) := cvT_some (by simp [cvA, h, h'])
theorem cvT_sb {s t e : TypeId} (h : tk P s = some .string) (h' : tk P t = some (.slice e)) (he : tk P e = some (.int .u8)) (H : List HO) (x : List UInt8) (kp : AV → Prop) (kh : AV → List HO → Prop) :
    cvT P H s t (.d (.str x)) kp kh = kh (.d (.sl .any (x.map byteEl))) H := by simp [cvT, cvA, cvH, h, h', he, oH]
theorem cvT_str {s t : TypeId} (h : tk P s = some .string) (h' : tk P t = some .string) (H : List HO) (x : List UInt8) (kp : AV → Prop) (kh : AV → List HO → Prop) : cvT P H s t (.d (.str x)) kp kh = kp (.d (.str x)) := cvT_some (by simp [cvA, h, h'])
def cvTB (H : List HO) (x : AV) (kp : AV → Prop) (kh : AV → List HO → Prop) : Prop :=
  match x with
  | .d (.sl _ es) => (match bytesOf es with | some l => kp (.d (.str l)) | none => False)
  | .tsl _ es => (match bytesOf es with | some l => kp (.d (.str l)) | none => False)
  | x => oH (cvBy H x) kh
theorem cvT_bytes {s t e : TypeId} (h : tk P s = some (.slice e)) (h' : tk P t = some .string) (he : tk P e = some (.int .u8)) (H : List HO) (x : AV) (kp : AV → Prop) (kh : AV → List HO → Prop) : cvT P H s t x kp kh = cvTB H x kp kh := by
  cases x with
  | d x => cases x with
    | sl st es => simp only [cvT, cvA, cvH, h, h', he, cvTB, cvB]; cases bytesOf es <;> rfl
    | _ => simp [cvT, cvA, cvH, h, h', cvTB, cvBy]
  | tsl tok es => simp only [cvT, cvA, cvH, h, h', he, cvTB, cvB]; cases bytesOf es <;> rfl
  | bsl id off len cap =>
    simp only [cvT, cvA, cvH, h, h', he, cvTB, cvBy]
    cases H[id]? with
    | none => rfl
    | some q => cases q <;> rfl
  | _ => simp [cvT, cvA, cvH, h, h', cvTB, cvBy]
@[go_sem] theorem cvTB_map (st : St) (l : List UInt8) : cvTB H (.d (.sl st (l.map byteEl))) kp kh = kp (.d (.str l)) := by simp [cvTB, bytesOf_map]
@[go_sem] theorem cvTB_tmap (tok : Nat) (l : List UInt8) : cvTB H (.tsl tok (l.map byteEl)) kp kh = kp (.d (.str l)) := by simp [cvTB, bytesOf_map]
@[go_sem] theorem cvTB_bsl (a b c d : Nat) : cvTB H (.bsl a b c d) kp kh = oH (cvBy H (.bsl a b c d)) kh := (rfl)
@[go_sem] theorem cvTB_one (st : St) (b : UInt8) : cvTB H (.d (.sl st [[.int .u8 (b.toNat : Int)]])) kp kh = kp (.d (.str [b])) := by simp [cvTB, bytesOf]
@[go_sem] theorem cvBy_one (st : St) (b : UInt8) : cvBy H (.d (.sl st [[.int .u8 (b.toNat : Int)]])) = some (.d (.str [b]), H) := by simp [cvBy, bytesOf]
end

@[go_sem] theorem elOk_nil_q (z : Nat) : elOk z [] = true := (rfl)
@[go_sem] theorem elOk_cons_q (z : Nat) (c : List DV) (r : List (List DV)) : elOk z (c :: r) = (c.length == z && c.all oneD && elOk z r) := by simp [elOk]
@[go_sem] theorem oneD_def (x : DV) : oneD x = oneA (.d x) := (rfl)
@[go_sem] theorem szOk_nil_q (z : Nat) : szOk z [] = true := (rfl)
@[go_sem] theorem szOk_cons_q (z : Nat) (c : List DV) (r : List (List DV)) : szOk z (c :: r) = (c.length == z && szOk z r) := by simp [szOk]
@[go_sem] theorem szOk_append_q (z : Nat) (a b : List (List DV)) : szOk z (a ++ b) = (szOk z a && szOk z b) := by simp [szOk]
@[go_sem] theorem elOk_append_q (z : Nat) (a b : List (List DV)) : elOk z (a ++ b) = (elOk z a && elOk z b) := by simp [elOk]
@[go_sem] theorem szOk_bytes (l : List UInt8) : szOk 1 (l.map byteEl) = true := by simp [szOk, byteEl]
@[go_sem] theorem elOk_bytes' (l : List UInt8) : elOk 1 (l.map byteEl) = true := elOk_bytes l
@[go_sem] theorem zerosA_zero (zs : List AV) : zerosA 0 zs = [] := (rfl)
@[go_sem] theorem zerosA_succ (n : Nat) (zs : List AV) : zerosA (n + 1) zs = zs ++ zerosA n zs := by simp [zerosA, List.replicate_succ]
@[go_sem] theorem min_8_16 : min 8 16 = 8 := (rfl)
@[go_sem] theorem min_1_16 : min 1 16 = 1 := (rfl)
@[go_sem] theorem min_15_16 : min 15 16 = 15 := (rfl)

@[go_sem] theorem At_nil_eq (e : Env) : At [] e = True := (rfl)
@[go_sem] theorem At_cons (t : Nat) (v : AV) (r : List (Nat × AV)) (e : Env) : At ((t, v) :: r) e = (e t = v ∧ At r e) := (rfl)

def ltBoxes (m : Nat) : List HO → Bool
  | [] => true
  | .box cs :: r => AV.ltL m cs && ltBoxes m r
  | .loop _ vals _ _ _ :: r => ltAll m vals && ltBoxes m r
  | _ :: r => ltBoxes m r

theorem ltBoxes_get {m : Nat} : ∀ {H : List HO} {i : Nat} {cs : List AV}, ltBoxes m H = true → H[i]? = some (.box cs) → AV.ltL m cs = true
  | [], i, cs, _, h => by simp at h
  | q :: r, 0, cs, hb, h => by
    simp at h; subst h
    simp [ltBoxes] at hb; exact hb.1
  | q :: r, i + 1, cs, hb, h => by
    have : ltBoxes m r = true := by
      cases q <;> simp [ltBoxes] at hb <;> first | exact hb.2 | exact hb
    exact ltBoxes_get this (by simpa using h)

theorem ltLoops_get {m : Nat} : ∀ {H : List HO} {i : Nat} {st : LS} {vals : List (Nat × AV)} {ps : List Tmp} {assign body : Code}, ltBoxes m H = true → H[i]? = some (.loop st vals ps assign body) → ltAll m vals = true
  | [], i, _, _, _, _, _, _, h => by simp at h
  | q :: r, 0, _, _, _, _, _, hb, h => by
    simp at h; subst h
    simp [ltBoxes] at hb; exact hb.1
  | q :: r, i + 1, _, _, _, _, _, hb, h => by
    have : ltBoxes m r = true := by
      cases q <;> simp [ltBoxes] at hb <;> first | exact hb.2 | exact hb
    exact ltLoops_get this (by simpa using h)

/-- The slots that count, the others empty. -/
def keepD : AV → AV
  | .dfr Ds => .dfr Ds
  | _ => .junk
theorem keepD_or (x : AV) : keepD x = x ∧ (∃ Ds, x = .dfr Ds) ∨ keepD x = .junk ∧ ∀ Ds, x ≠ .dfr Ds := by
  cases x <;> simp [keepD]
def keepE (l : List (Nat × AV)) (e : Env) : Env := fun t => if l.any (fun p => p.1 == t) then e t else keepD (e t)
theorem keepE_at {e : Env} : ∀ {l l' : List (Nat × AV)}, (∀ p ∈ l', p ∈ l) → At l' e → At l' (keepE l e)
  | l, [], _, _ => trivial
  | l, (t, v) :: r, hs, h => by
    refine ⟨?_, keepE_at (fun p hp => hs p (by simp [hp])) h.2⟩
    have : l.any (fun p => p.1 == t) = true := List.any_eq_true.2 ⟨(t, v), hs _ (by simp), by simp⟩
    simp only [keepE, this, if_true]
    exact h.1
theorem At_get {e : Env} {m : Nat} : ∀ {l : List (Nat × AV)} {t : Nat}, At l e → ltAll m l = true → l.any (fun p => p.1 == t) = true → (e t).lt m = true
  | [], t, _, _, h => by simp at h
  | (u, v) :: r, t, ha, hl, h => by
    simp only [ltAll, Bool.and_eq_true] at hl
    simp only [List.any_cons, Bool.or_eq_true] at h
    rcases h with h | h
    · have : u = t := by simpa using h
      subst this
      rw [ha.1]; exact hl.1
    · exact At_get ha.2 hl.2 h

theorem Weak.keep {n0 : Nat} {e : Env} {H J R : List HO} {l : List (Nat × AV)} (hH : H = J ++ R) (hn : n0 ≤ J.length) (ha : At l e) (hl : ltAll J.length l = true) (hb : ltBoxes J.length J = true) : Weak n0 e H (keepE l e) J := by
  subst hH
  refine ⟨hn, by simp, fun i hi => .inr ⟨by rw [List.getElem?_append_left hi], fun cs hcs => ?_, fun st vals ps assign body hcs => ?_⟩, fun t => ?_⟩
  · rw [List.getElem?_append_left hi] at hcs
    exact ltBoxes_get hb hcs
  · rw [List.getElem?_append_left hi] at hcs
    exact ltLoops_get hb hcs
  · by_cases h : l.any (fun p => p.1 == t) = true
    · exact .inr ⟨by simp [keepE, h], At_get ha hl h⟩
    · have hk : keepE l e t = keepD (e t) := by simp [keepE, h]
      rcases keepD_or (e t) with ⟨h1, Ds, h2⟩ | ⟨h1, h2⟩
      · exact .inr ⟨by rw [hk, h1], by rw [h2]; rfl⟩
      · exact .inl ⟨by rw [hk, h1], h2⟩

variable {P : Program} {G : Gl} {n0 : Nat} {H : List HO} {e : Env} {Q : Exit → Env → List HO → Prop} {body : Code}

/-- The end of a round. -/
def roundW {S : Type} (vals : S → List (Nat × AV)) (J : S → List HO) (Inv : S → Prop) (μ : S → Nat) (s : S) (n0 : Nat) (Q : Exit → Env → List HO → Prop) : Exit → Env → List HO → Prop := fun x e H =>
  match x with
  | .normal => ∃ s', Inv s' ∧ μ s' < μ s ∧ (∃ R, H = J s' ++ R) ∧ At (vals s') e
  | x => Q x e H
section
variable {S : Type} {vals : S → List (Nat × AV)} {J : S → List HO} {Inv : S → Prop} {μ : S → Nat} {s : S}
@[go_sem] theorem roundW_normal : roundW vals J Inv μ s n0 Q .normal e H = ∃ s', Inv s' ∧ μ s' < μ s ∧ (∃ R, H = J s' ++ R) ∧ At (vals s') e := (rfl)
@[go_sem] theorem roundW_ret : roundW vals J Inv μ s n0 Q .ret e H = Q .ret e H := (rfl)
@[go_sem] theorem roundW_exit (id : Nat) : roundW vals J Inv μ s n0 Q (.exit id) e H = Q (.exit id) e H := (rfl)

theorem opsW_mono {all : Array Oper} : ∀ (os : List Oper) (Q Q' : Env → List HO → Prop) (e : Env) (H : List HO), opsW P G all os Q e H → (∀ e H, Q e H → Q' e H) → opsW P G all os Q' e H
  | [], Q, Q', e, H, h, hq => hq _ _ h
  | o :: os, Q, Q', e, H, h, hq => by
    simp only [opsW] at h ⊢
    cases hw : wantA all e o.guard with
    | none => rw [hw] at h; exact h.elim
    | some b =>
      rw [hw] at h
      cases b with
      | false => exact opsW_mono os Q Q' _ _ h hq
      | true =>
        simp only [gW] at h ⊢
        simp only [stepW] at h ⊢
        cases hp : pst P G e o.op with
        | some r => rw [hp] at h; exact opsW_mono os Q Q' _ _ h hq
        | none =>
          rw [hp] at h
          simp only at h ⊢
          cases hh : hst P G e H o.op with
          | some r => rw [hh] at h; exact opsW_mono os Q Q' _ _ h hq
          | none =>
            rw [hh] at h
            simp only at h ⊢
            unfold opCall at h ⊢
            split
            · rename_i f args ts hop
              rw [hop] at h
              simp only at h
              unfold callW at h ⊢
              split
              · rename_i F hF
                rw [hF] at h
                obtain ⟨r, H', h1, h2⟩ := h
                exact ⟨r, H', h1, opsW_mono os Q Q' _ _ h2 hq⟩
              · rename_i F caps hF
                rw [hF] at h
                obtain ⟨r, H', h1, h2⟩ := h
                exact ⟨r, H', h1, opsW_mono os Q Q' _ _ h2 hq⟩
              · rename_i id hF
                rw [hF] at h
                obtain ⟨r, H', h1, h2⟩ := h
                exact ⟨r, H', h1, opsW_mono os Q Q' _ _ h2 hq⟩
              · rename_i hne hne' hne2
                revert h
                cases hv : ev G e f with
                | d x => cases x <;> first | (intro h; exact h) | exact absurd hv (hne _)
                | clo F caps => exact absurd hv (hne' _ _)
                | yld id => exact absurd hv (hne2 _)
                | _ => exact id
            · rename_i hne
              revert h
              split
              · rename_i f args ts hop; exact absurd hop (hne _ _ _)
              · exact id

theorem trW_mono {all : Array Oper} : ∀ (os : List Oper) (cs : List Cls) (Q Q' : List Cls → Env → List HO → Prop) (e : Env) (H : List HO), trW P G all os cs Q e H → (∀ cs e H, Q cs e H → Q' cs e H) → trW P G all os cs Q' e H
  | [], cs, Q, Q', e, H, h, hq => hq _ _ _ h
  | o :: os, cs, Q, Q', e, H, h, hq => by
    simp only [trW] at h ⊢
    cases hw : wantA all e o.guard with
    | none => rw [hw] at h; exact h.elim
    | some b =>
      rw [hw] at h
      cases b with
      | false => exact trW_mono os _ Q Q' _ _ h hq
      | true =>
        simp only [gW] at h ⊢
        simp only [stepT] at h ⊢
        cases hp : pst P G e o.op with
        | some r => rw [hp] at h; exact trW_mono os _ Q Q' _ _ h hq
        | none =>
          rw [hp] at h
          simp only at h ⊢
          cases hh : hst P G e H o.op with
          | some r => rw [hh] at h; exact trW_mono os _ Q Q' _ _ h hq
          | none =>
            rw [hh] at h
            simp only at h ⊢
            unfold opCallT at h ⊢
            split
            · rename_i f args ts hop
              rw [hop] at h
              simp only at h
              unfold callT at h ⊢
              split
              · rename_i F ds hF hds
                rw [hF, hds] at h
                obtain ⟨r, h1, h2⟩ := h
                exact ⟨r, h1, trW_mono os _ Q Q' _ _ h2 hq⟩
              · rename_i F hF hds
                rw [hF, hds] at h
                obtain ⟨r, H', c, h1, hc, h2⟩ := h
                exact ⟨r, H', c, h1, hc, trW_mono os _ Q Q' _ _ h2 hq⟩
              · rename_i F caps o hF
                rw [hF] at h
                obtain ⟨r, H', c, h1, hc, h2⟩ := h
                exact ⟨r, H', c, h1, hc, trW_mono os _ Q Q' _ _ h2 hq⟩
              · rename_i hne hne' hne''
                revert h
                cases hv : ev G e f with
                | d x => cases x with
                  | func F =>
                    cases hd : allD (normAL (args.toList.map (ev G e))) with
                    | none => first | exact (hne _ _ hv hd).elim | exact (hne' _ _ hv hd).elim | exact (hne'' _ _ hv hd).elim | exact (hne _ hv hd).elim | exact (hne' _ hv hd).elim | exact (hne'' _ hv hd).elim
                    | some ds => first | exact (hne _ _ hv hd).elim | exact (hne' _ _ hv hd).elim | exact (hne'' _ _ hv hd).elim | exact (hne _ hv hd).elim | exact (hne' _ hv hd).elim | exact (hne'' _ hv hd).elim
                  | _ => exact id
                | clo F caps => first | exact (hne _ _ hv).elim | exact (hne' _ _ hv).elim | exact (hne'' _ _ hv).elim
                | _ => exact id
            · rename_i hne
              revert h
              split
              · rename_i f args ts hop; exact absurd hop (hne _ _ _)
              · exact id

theorem wpc_mono : ∀ (c : Code) (Q Q' : Exit → Env → List HO → Prop) (e : Env) (H : List HO), wpc P G n0 c Q e H → (∀ x e H, Q x e H → Q' x e H) → wpc P G n0 c Q' e H := by
  intro c
  induction c with
  | skip => intro Q Q' e H h hq; exact hq _ _ _ h
  | label l => intro Q Q' e H h hq; exact hq _ _ _ h
  | ret => intro Q Q' e H h hq; exact hq _ _ _ h
  | exit id => intro Q Q' e H h hq; exact hq _ _ _ h
  | seq x y ihx ihy =>
    intro Q Q' e H h hq
    rw [wpc] at h ⊢
    refine ihx _ _ _ _ h ?_
    intro x e H hx
    cases x with
    | normal => exact ihy _ _ _ _ hx hq
    | _ => exact hq _ _ _ hx
  | cond c x y ihx ihy =>
    intro Q Q' e H h hq
    rw [wpc] at h ⊢
    revert h
    cases ev G e c with
    | d v => cases v with
      | bool t => cases t with
        | true => exact fun h => ihx _ _ _ _ h hq
        | false => exact fun h => ihy _ _ _ _ h hq
      | _ => exact id
    | _ => exact id
  | block id x ih =>
    intro Q Q' e H h hq
    rw [wpc] at h ⊢
    refine ih _ _ _ _ h ?_
    intro x e H hx
    cases x with
    | exit id' =>
      simp only at hx ⊢
      by_cases hid : id' = id
      · rw [if_pos hid] at hx ⊢; exact hq _ _ _ hx
      · rw [if_neg hid] at hx ⊢; exact hq _ _ _ hx
    | _ => exact hq _ _ _ hx
  | loop x ih =>
    intro Q Q' e H h hq
    rw [wpc] at h ⊢
    obtain ⟨e0, H0, I, n, h1, h2, h3⟩ := h
    refine ⟨e0, H0, I, n, h1, h2, fun n e' H' hI => ih _ _ _ _ (h3 n e' H' hI) ?_⟩
    intro x e H hx
    cases x with
    | normal => exact hx
    | _ => exact hq _ _ _ hx
  | region id ops draw =>
    intro Q Q' e H h hq
    cases draw with
    | true =>
      rw [wpc] at h ⊢
      exact trW_mono _ _ _ _ _ _ h (fun cs e H hx => ⟨hx.1, hq _ _ _ hx.2⟩)
    | false =>
      rw [wpc] at h ⊢
      exact opsW_mono _ _ _ _ _ h (fun e H hx => hq _ _ _ hx)
  | rangeFunc g ps x y =>
    intro Q Q' e H h hq
    rw [wpc] at h ⊢
    obtain ⟨f, caps, vals, h1, h2, h3, h4, h5⟩ := h
    refine ⟨f, caps, vals, h1, h2, h3, h4, fun D => ?_⟩
    obtain ⟨r, H', h6, h7⟩ := h5 D
    refine ⟨r, H', h6, ?_⟩
    rcases h7 with ⟨h7, h8⟩ | ⟨h7, h8⟩ | ⟨id, h7, h8⟩
    · exact .inl ⟨h7, hq _ _ _ h8⟩
    · exact .inr (.inl ⟨h7, hq _ _ _ h8⟩)
    · exact .inr (.inr ⟨id, h7, hq _ _ _ h8⟩)
  | scope x => intro Q Q' e H h; simp only [wpc] at h
  | goto l => intro Q Q' e H h; simp only [wpc] at h
  | refuse why => intro Q Q' e H h; simp only [wpc] at h

/-- The rule for a loop: the states, what the slots and the heap hold at each, what a round does. -/
theorem wpc_loop (S : Type) (vals : S → List (Nat × AV)) (J : S → List HO) (Inv : S → Prop) (μ : S → Nat) (s0 : S) {e0 : Env} {H0 : List HO} (hg : Ghost e H e0 H0)
    (hlt : ∀ s, Inv s → n0 ≤ (J s).length ∧ ltAll (J s).length (vals s) = true ∧ ltBoxes (J s).length (J s) = true)
    (h0 : Inv s0) (hH : H0 = J s0) (hv : At (vals s0) e0)
    (step : ∀ s e, Inv s → At (vals s) e → wpc P G n0 body (roundW vals J Inv μ s n0 Q) e (J s)) : wpc P G n0 (.loop body) Q e H := by
  rw [wpc]
  refine ⟨e0, H0, fun n e H => ∃ s, Inv s ∧ H = J s ∧ At (vals s) e ∧ n = μ s, μ s0, hg, ⟨s0, h0, hH, hv, rfl⟩, ?_⟩
  rintro n e' H' ⟨s, hI, rfl, hA, rfl⟩
  refine wpc_mono _ _ _ _ _ (step s e' hI hA) ?_
  intro x e'' H'' hx
  cases x with
  | normal =>
    obtain ⟨s', i1, i2, ⟨R, i3⟩, i4⟩ := hx
    obtain ⟨w1, w2, w3⟩ := hlt s' i1
    exact ⟨μ s', keepE (vals s') e'', J s', i2, Weak.keep i3 w1 i4 w2 w3, s', i1, rfl, keepE_at (fun p hp => hp) i4, rfl⟩
  | _ => exact hx
end

end Go.Proofs.YtjmldlknegbimaaGreatDoor.Sx

/- A contract of the kit's own, over strings and numbers, as a contract of data. Own library, part 18. -/
set_option linter.unusedVariables false
set_option linter.unusedSimpArgs false
namespace Go.Proofs.YtjmldlknegbimaaGreatDoor.Sx
open Go Go.RowKit

variable {P : Program} {G : Gl}

def valS : DV → Option Value
  | .str s => some (.string ⟨s.toArray⟩)
  | .int k n => some (.int k n)
  | .bool b => some (.bool b)
  | _ => none

theorem valS_rel {K : Mem} {d : DV} {v u : Value} (h : valS d = some v) (hr : Rel K d u) : u = v := by
  cases hr <;> simp [valS] at h <;> exact h

theorem agree_below {K : Mem} {w w' : World} (h : Agree K w) (hb : Below w.heap.size w w') : Agree K w' := fun a v e => by
  have hv := h a v e
  have hlt := h.lt e
  rw [← hv]
  simp only [World.cell?, hb.block _ hlt]

theorem PF.of_below {f : FuncId} {ds : List DV} {vs : List Value} {r : DV} {v : Value} (hok : fnOk P f = true) (hvs : ds.map valS = vs.map some) (hv : ∀ K, Rel K r v)
    (h : ∀ w, Calls P f vs.toArray w fun e w' => e = .returned v ∧ Below w.heap.size w w') : PF P G f ds r := by
  intro H
  refine ⟨hok, fun X K ι w us hsr hG hl hr => ?_⟩
  have hlen : ds.length = vs.length := by have := congrArg List.length hvs; simpa using this
  have : us = vs.toArray := by
    apply Array.ext
    · simp at hl; simp [hl, hlen]
    · intro i h1 h2
      have hi : i < ds.length := by simp at hl; omega
      have hi2 : i < vs.length := by omega
      have h3 := hr i (by simpa using hi)
      rw [getD_map' AV.d ds i .nilp _ hi] at h3
      have h4 : valS ds[i] = some vs[i] := by
        have := congrArg (fun l => l[i]?) hvs
        simpa [hi, hi2] using this
      have h5 := valS_rel h4 (by simpa [List.getD_eq_getElem?_getD, hi] using h3.get)
      simp [Array.getD, h1] at h5
      simpa using h5
  subst this
  refine (h w).mono ?_
  rintro e w' ⟨rfl, hb⟩
  exact ⟨v, rfl, K, ι, hsr.ext ⟨Mem.le_refl K, fun _ _ => rfl, agree_below hsr.agree hb, hb⟩, .d _ _ (hv K), Mem.le_refl K, Pls.le_refl _ _, Nat.le_refl _⟩

end Go.Proofs.YtjmldlknegbimaaGreatDoor.Sx
