/- The executor as rewrite rules: one rule an operation. Own library, part 15. -/
import Derived.Test.YtjmldlknegbimaaDoorA14
set_option linter.unusedVariables false
set_option linter.unusedSimpArgs false
namespace Go.Proofs.YtjmldlknegbimaaDoor.Sx
open Go Go.RowKit

def oK (o : Option AV) (k : AV → Prop) : Prop :=
  match o with
  | some r => k r
  | none => False
@[congr] theorem oK_congr {o o' : Option AV} {k : AV → Prop} (h : o = o') : oK o k = oK o' k := by rw [h]
@[go_sem] theorem oK_some (r : AV) (k : AV → Prop) : oK (some r) k = k r := (rfl)

def oH (o : Option (AV × List HO)) (k : AV → List HO → Prop) : Prop :=
  match o with
  | some (r, H') => k r H'
  | none => False
@[congr] theorem oH_congr {o o' : Option (AV × List HO)} {k : AV → List HO → Prop} (h : o = o') : oH o k = oH o' k := by rw [h]
@[go_sem] theorem oH_some (r : AV) (H : List HO) (k : AV → List HO → Prop) : oH (some (r, H)) k = k r H := (rfl)

@[congr] theorem gW_congr {c c' : Option Bool} {x y : Prop} (h : c = c') : gW c x y = gW c' x y := by rw [h]
@[go_sem] theorem gW_true (x y : Prop) : gW (some true) x y = x := (rfl)
@[go_sem] theorem gW_false (x y : Prop) : gW (some false) x y = y := (rfl)
theorem gW_split {c : Bool} {x y : Prop} (h1 : c = true → x) (h2 : c = false → y) : gW (some c) x y := by
  cases c
  · exact h2 rfl
  · exact h1 rfl

variable {P : Program} {G : Gl} {n0 : Nat}

@[congr] theorem wpc_congr {c : Code} {Q : Exit → Env → List HO → Prop} {e e' : Env} {H H' : List HO} (h : e = e') (h' : H = H') : wpc P G n0 c Q e H = wpc P G n0 c Q e' H' := by rw [h, h']
@[congr] theorem opsW_congr {all : Array Oper} {os : List Oper} {Q : Env → List HO → Prop} {e e' : Env} {H H' : List HO} (h : e = e') (h' : H = H') : opsW P G all os Q e H = opsW P G all os Q e' H' := by rw [h, h']
@[congr] theorem trW_congr {all : Array Oper} {os : List Oper} {cs cs' : List Cls} {Q : List Cls → Env → List HO → Prop} {e e' : Env} {H H' : List HO} (hc : cs = cs') (h : e = e') (h' : H = H') :
    trW P G all os cs Q e H = trW P G all os cs' Q e' H' := by rw [h, h', hc]

section
variable {Q : Exit → Env → List HO → Prop} {e : Env} {H : List HO}
@[go_sem] theorem wpc_skip : wpc P G n0 .skip Q e H = Q .normal e H := (rfl)
@[go_sem] theorem wpc_label (l : Nat) : wpc P G n0 (.label l) Q e H = Q .normal e H := (rfl)
@[go_sem] theorem wpc_ret : wpc P G n0 .ret Q e H = Q .ret e H := (rfl)
@[go_sem] theorem wpc_exit (id : Nat) : wpc P G n0 (.exit id) Q e H = Q (.exit id) e H := (rfl)
/-- What stands behind a piece of code, kept from the rewriting. -/
def thenW (P : Program) (G : Gl) (n0 : Nat) (b : Code) (Q : Exit → Env → List HO → Prop) : Exit → Env → List HO → Prop := fun x e H => match x with | .normal => wpc P G n0 b Q e H | x => Q x e H
def blockW (id : Nat) (Q : Exit → Env → List HO → Prop) : Exit → Env → List HO → Prop := fun x e H => match x with | .exit id' => if id' = id then Q .normal e H else Q (.exit id') e H | x => Q x e H
@[go_sem] theorem wpc_seq (a b : Code) : wpc P G n0 (.seq a b) Q e H = wpc P G n0 a (thenW P G n0 b Q) e H := by rw [wpc]; rfl
@[go_sem] theorem thenW_normal (b : Code) : thenW P G n0 b Q .normal e H = wpc P G n0 b Q e H := (rfl)
@[go_sem] theorem thenW_ret (b : Code) : thenW P G n0 b Q .ret e H = Q .ret e H := (rfl)
@[go_sem] theorem thenW_exit (b : Code) (id : Nat) : thenW P G n0 b Q (.exit id) e H = Q (.exit id) e H := (rfl)
@[go_sem] theorem wpc_block (id : Nat) (a : Code) : wpc P G n0 (.block id a) Q e H = wpc P G n0 a (blockW id Q) e H := by rw [wpc]; rfl
@[go_sem] theorem blockW_normal (id : Nat) : blockW id Q .normal e H = Q .normal e H := (rfl)
@[go_sem] theorem blockW_ret (id : Nat) : blockW id Q .ret e H = Q .ret e H := (rfl)
@[go_sem] theorem blockW_same (id : Nat) : blockW id Q (.exit id) e H = Q .normal e H := by simp [blockW]
@[go_sem] theorem blockW_other (id id' : Nat) (h : (id' == id) = false) : blockW id Q (.exit id') e H = Q (.exit id') e H := by
  have : id' ≠ id := by simpa using h
  simp [blockW, this]
@[go_sem] theorem wpc_region (id : Nat) (l : List Oper) : wpc P G n0 (.region id ⟨l⟩ false) Q e H = opsW P G ⟨l⟩ l (Q .normal) e H := (rfl)
def drawQ (ops : Array Oper) (Q : Exit → Env → List HO → Prop) : List Cls → Env → List HO → Prop := fun cs e H => drawOk ops cs = true ∧ Q .normal e H
@[go_sem] theorem wpc_draw (id : Nat) (l : List Oper) : wpc P G n0 (.region id ⟨l⟩ true) Q e H = trW P G ⟨l⟩ l [] (drawQ ⟨l⟩ Q) e H := (rfl)

def condW (P : Program) (G : Gl) (n0 : Nat) (v : AV) (a b : Code) (Q : Exit → Env → List HO → Prop) (e : Env) (H : List HO) : Prop :=
  match v with
  | .d (.bool t) => gW (some t) (wpc P G n0 a Q e H) (wpc P G n0 b Q e H)
  | _ => False
@[congr] theorem condW_congr {v v' : AV} {a b : Code} {Q : Exit → Env → List HO → Prop} {e : Env} {H : List HO} (h : v = v') : condW P G n0 v a b Q e H = condW P G n0 v' a b Q e H := by rw [h]
@[go_sem] theorem wpc_cond (c : Operand) (a b : Code) : wpc P G n0 (.cond c a b) Q e H = condW P G n0 (ev G e c) a b Q e H := by rw [wpc]; rfl
@[go_sem] theorem condW_true (a b : Code) : condW P G n0 (.d (.bool true)) a b Q e H = wpc P G n0 a Q e H := (rfl)
@[go_sem] theorem condW_false (a b : Code) : condW P G n0 (.d (.bool false)) a b Q e H = wpc P G n0 b Q e H := (rfl)
theorem condW_split {t : Bool} {a b : Code} (h1 : t = true → wpc P G n0 a Q e H) (h2 : t = false → wpc P G n0 b Q e H) : condW P G n0 (.d (.bool t)) a b Q e H := by
  cases t
  · exact h2 rfl
  · exact h1 rfl
end

/-! Slots and operands -/
@[go_sem] theorem updO_some (e : Env) (t : Nat) (v : AV) : updO e (some t) v = upd e t v := (rfl)
@[go_sem] theorem updO_none (e : Env) (v : AV) : updO e none v = e := (rfl)
@[go_sem] theorem upd_same (e : Env) (t : Nat) (v : AV) : upd e t v t = v := by simp [upd]
@[go_sem] theorem upd_other (e : Env) (t u : Nat) (v : AV) (h : (u == t) = false) : upd e t v u = e u := by
  have : u ≠ t := by simpa using h
  simp [upd, this]
@[go_sem] theorem ev_tmp (e : Env) (t : Nat) : ev G e (.tmp t) = e t := (rfl)
@[go_sem] theorem ev_func (e : Env) (f : Nat) : ev G e (.func f) = .d (.func f) := (rfl)
@[go_sem] theorem ev_int (e : Env) (k : IntKind) (n : Int) : ev G e (.const (.int k n)) = .d (.int k n) := (rfl)
@[go_sem] theorem ev_bool (e : Env) (b : Bool) : ev G e (.const (.bool b)) = .d (.bool b) := (rfl)
@[go_sem] theorem ev_str (e : Env) (l : List UInt8) : ev G e (.const (.string ⟨⟨l⟩⟩)) = .d (.str l) := (rfl)
@[go_sem] theorem ev_nilp (e : Env) : ev G e (.const (.pointer none)) = .d .nilp := (rfl)
@[go_sem] theorem ev_nilsl (e : Env) : ev G e (.const (.slice none 0 0)) = .d (.sl .nil []) := (rfl)
@[go_sem] theorem ev_nilf (e : Env) : ev G e (.const .nilFunc) = .d .nilf := (rfl)
@[go_sem] theorem ev_nili (e : Env) : ev G e (.const .nilIface) = .d .nili := (rfl)
@[go_sem] theorem env0_zero (x : AV) (l : List AV) : env0 (x :: l) 0 = x := (rfl)
@[go_sem] theorem env0_succ (x : AV) (l : List AV) (t : Nat) : env0 (x :: l) (t + 1) = env0 l t := (rfl)
@[go_sem] theorem env0_1 (x y : AV) (l : List AV) : env0 (x :: y :: l) 1 = y := (rfl)
@[go_sem] theorem env0_2 (x y z : AV) (l : List AV) : env0 (x :: y :: z :: l) 2 = z := (rfl)
@[go_sem] theorem env0_3 (x y z u : AV) (l : List AV) : env0 (x :: y :: z :: u :: l) 3 = u := (rfl)
@[go_sem] theorem env0_4 (x y z u v : AV) (l : List AV) : env0 (x :: y :: z :: u :: v :: l) 4 = v := (rfl)

/-! One rule an operation -/
section
variable {all : Array Oper} {os : List Oper} {Q : Env → List HO → Prop} {e : Env} {H : List HO} {d : Option Tmp} {T : TypeId} {p : String} {af : Array Edge}
/-- What follows an operation. -/
def kO (P : Program) (G : Gl) (all : Array Oper) (os : List Oper) (Q : Env → List HO → Prop) (e : Env) (H : List HO) (d : Option Tmp) : AV → Prop := fun r => opsW P G all os Q (updO e d r) H
def kH (P : Program) (G : Gl) (all : Array Oper) (os : List Oper) (Q : Env → List HO → Prop) (e : Env) (d : Option Tmp) : AV → List HO → Prop := fun r H => opsW P G all os Q (updO e d r) H
@[go_sem] theorem kO_eq (r : AV) : kO P G all os Q e H d r = opsW P G all os Q (updO e d r) H := (rfl)
@[go_sem] theorem kH_eq (r : AV) (H : List HO) : kH P G all os Q e d r H = opsW P G all os Q (updO e d r) H := (rfl)

@[go_sem] theorem opsW_nil : opsW P G all [] Q e H = Q e H := (rfl)
/-- An operation under a guard. -/
def gO (P : Program) (G : Gl) (c : Option Bool) (all : Array Oper) (o : Oper) (os : List Oper) (Q : Env → List HO → Prop) (e : Env) (H : List HO) : Prop := gW c (opsW P G all (o :: os) Q e H) (opsW P G all os Q (updO e o.dst (.d (.tup []))) H)
@[congr] theorem gO_congr {c c' : Option Bool} {o : Oper} {e e' : Env} (h : c = c') (h' : e = e') : gO P G c all o os Q e H = gO P G c' all o os Q e' H := by rw [h, h']
@[go_sem] theorem gO_true (o : Oper) : gO P G (some true) all o os Q e H = opsW P G all (o :: os) Q e H := (rfl)
@[go_sem] theorem gO_false (op : Op) (g : Option (Nat × Bool)) : gO P G (some false) all ⟨d, op, T, p, af, g⟩ os Q e H = opsW P G all os Q (updO e d (.d (.tup []))) H := (rfl)
theorem gO_split {b : Bool} {o : Oper} (h1 : b = true → gO P G (some true) all o os Q e H) (h2 : b = false → gO P G (some false) all o os Q e H) : gO P G (some b) all o os Q e H := by
  cases b
  · exact h2 rfl
  · exact h1 rfl
@[go_sem] theorem opsW_guard (op : Op) (j : Nat) (b : Bool) : opsW P G all (⟨d, op, T, p, af, some (j, b)⟩ :: os) Q e H = gO P G (wantA all e (some (j, b))) all ⟨d, op, T, p, af, none⟩ os Q e H := (rfl)
theorem opsW_of_pst {op : Op} (h : hst P G e H op = none) (h' : ∀ Q', opCall P G e H op Q' = False) : opsW P G all (⟨d, op, T, p, af, none⟩ :: os) Q e H = oK (pst P G e op) (kO P G all os Q e H d) := by
  simp only [opsW, wantA, gW, stepW, h, h']
  cases pst P G e op <;> rfl
@[go_sem] theorem opsW_move (x : Operand) : opsW P G all (⟨d, .move x, T, p, af, none⟩ :: os) Q e H = opsW P G all os Q (updO e d (ev G e x)) H := (rfl)
@[go_sem] theorem opsW_assign (x : Operand) : opsW P G all (⟨d, .assign x, T, p, af, none⟩ :: os) Q e H = opsW P G all os Q (updO e d (ev G e x)) H := (rfl)
@[go_sem] theorem opsW_pick (a b c : Operand) : opsW P G all (⟨d, .pick a b c, T, p, af, none⟩ :: os) Q e H = oK (pkA (ev G e a) (ev G e b) (ev G e c)) (kO P G all os Q e H d) := opsW_of_pst rfl (fun _ => rfl)
@[go_sem] theorem opsW_nilCheck (x : Operand) : opsW P G all (⟨d, .nilCheck x, T, p, af, none⟩ :: os) Q e H = oK (nckA (ev G e x)) (kO P G all os Q e H d) := opsW_of_pst rfl (fun _ => rfl)
@[go_sem] theorem opsW_binOp (op : BinOp) (t yt : TypeId) (x y : Operand) : opsW P G all (⟨d, .binOp op t x y yt, T, p, af, none⟩ :: os) Q e H = oK (binA P op t (ev G e x) (ev G e y) (isC x || isC y)) (kO P G all os Q e H d) := opsW_of_pst rfl (fun _ => rfl)
@[go_sem] theorem opsW_unOp (op : UnOp) (t : TypeId) (x : Operand) : opsW P G all (⟨d, .unOp op t x, T, p, af, none⟩ :: os) Q e H = oK (unA op (ev G e x)) (kO P G all os Q e H d) := opsW_of_pst rfl (fun _ => rfl)
@[go_sem] theorem opsW_fieldAddr (t : TypeId) (x : Operand) (f : Nat) : opsW P G all (⟨d, .fieldAddr t x f, T, p, af, none⟩ :: os) Q e H = oK (faA P t (ev G e x) f) (kO P G all os Q e H d) := opsW_of_pst rfl (fun _ => rfl)
@[go_sem] theorem opsW_field (t : TypeId) (x : Operand) (f : Nat) : opsW P G all (⟨d, .field t x f, T, p, af, none⟩ :: os) Q e H = oK (fieldA P t (ev G e x) f) (kO P G all os Q e H d) := opsW_of_pst rfl (fun _ => rfl)
@[go_sem] theorem opsW_indexAddr (t : TypeId) (x i : Operand) : opsW P G all (⟨d, .indexAddr t x i, T, p, af, none⟩ :: os) Q e H = oK (iaA P t (ev G e x) (ev G e i)) (kO P G all os Q e H d) := opsW_of_pst rfl (fun _ => rfl)
@[go_sem] theorem opsW_index (t : TypeId) (x i : Operand) : opsW P G all (⟨d, .index t x i, T, p, af, none⟩ :: os) Q e H = oK (ixA P t (ev G e x) (ev G e i)) (kO P G all os Q e H d) := opsW_of_pst rfl (fun _ => rfl)
@[go_sem] theorem opsW_slice (t : TypeId) (x : Operand) (lo hi mx : Option Operand) : opsW P G all (⟨d, .slice t x lo hi mx, T, p, af, none⟩ :: os) Q e H = oK (slA P t (ev G e x) (lo.map (ev G e)) (hi.map (ev G e)) (mx.map (ev G e))) (kO P G all os Q e H d) := opsW_of_pst rfl (fun _ => rfl)
@[go_sem] theorem opsW_extract (x : Operand) (i : Nat) : opsW P G all (⟨d, .extract x i, T, p, af, none⟩ :: os) Q e H = oK (exA (ev G e x) i) (kO P G all os Q e H d) := opsW_of_pst rfl (fun _ => rfl)
@[go_sem] theorem opsW_makeFunc (fn : Go.Fn) (a b : List Operand) : opsW P G all (⟨d, .makeFunc fn ⟨a⟩ ⟨b⟩, T, p, af, none⟩ :: os) Q e H = oK (mfA fn (a.map (ev G e)) (b.map (ev G e))) (kO P G all os Q e H d) := opsW_of_pst rfl (fun _ => rfl)
@[go_sem] theorem opsW_build (t : TypeId) (ps : List (Nat × Operand)) : opsW P G all (⟨d, .build t ⟨ps⟩, T, p, af, none⟩ :: os) Q e H = oK (bldA P t (ps.map fun q => (q.1, ev G e q.2))) (kO P G all os Q e H d) := opsW_of_pst rfl (fun _ => rfl)
@[go_sem] theorem opsW_makeInterface (t : TypeId) (x : Operand) : opsW P G all (⟨d, .makeInterface t x, T, p, af, none⟩ :: os) Q e H = oK (miA P t (ev G e x)) (kO P G all os Q e H d) := opsW_of_pst rfl (fun _ => rfl)
@[go_sem] theorem opsW_len (x : Operand) (t : TypeId) : opsW P G all (⟨d, .call ⟨.builtin .len, ⟨[x]⟩, ⟨[t]⟩⟩, T, p, af, none⟩ :: os) Q e H = oK (lnA P t (ev G e x)) (kO P G all os Q e H d) := opsW_of_pst rfl (fun _ => rfl)
@[go_sem] theorem opsW_min (x y : Operand) (ts : Array TypeId) : opsW P G all (⟨d, .call ⟨.builtin .min, ⟨[x, y]⟩, ts⟩, T, p, af, none⟩ :: os) Q e H = oK (minA (ev G e x) (ev G e y)) (kO P G all os Q e H d) := opsW_of_pst rfl (fun _ => rfl)
@[go_sem] theorem opsW_max (x y : Operand) (ts : Array TypeId) : opsW P G all (⟨d, .call ⟨.builtin .max, ⟨[x, y]⟩, ts⟩, T, p, af, none⟩ :: os) Q e H = oK (maxA (ev G e x) (ev G e y)) (kO P G all os Q e H d) := opsW_of_pst rfl (fun _ => rfl)
theorem opsW_of_hst {op : Op} (h : pst P G e op = none) (h' : ∀ Q', opCall P G e H op Q' = False) : opsW P G all (⟨d, op, T, p, af, none⟩ :: os) Q e H = oH (hst P G e H op) (kH P G all os Q e d) := by
  simp only [opsW, wantA, gW, stepW, h, h']
  cases hst P G e H op <;> rfl
@[go_sem] theorem opsW_alloc (t : TypeId) : opsW P G all (⟨d, .alloc t, T, p, af, none⟩ :: os) Q e H = oH (match tz P t with | some z => some (.ptr H.length 0, H ++ [.box (ofVL z.cells.toList)]) | none => none) (kH P G all os Q e d) := opsW_of_hst rfl (fun _ => rfl)
@[go_sem] theorem opsW_box (t : TypeId) (x : Operand) : opsW P G all (⟨d, .box t x, T, p, af, none⟩ :: os) Q e H = oH (match cellsA (ev G e x) with | some cs => some (.ptr H.length 0, H ++ [.box cs]) | none => none) (kH P G all os Q e d) := opsW_of_hst rfl (fun _ => rfl)
@[go_sem] theorem opsW_store (t : TypeId) (x y : Operand) : opsW P G all (⟨d, .store t x y, T, p, af, none⟩ :: os) Q e H = oH (stB P H t (ev G e x) (ev G e y)) (kH P G all os Q e d) := opsW_of_hst rfl (fun _ => rfl)
@[go_sem] theorem opsW_makeSlice (t : TypeId) (x y : Operand) : opsW P G all (⟨d, .makeSlice t x y, T, p, af, none⟩ :: os) Q e H = oH (if isZ x = true then mkZ P H t (ev G e y) else mkA P H t (ev G e x) (ev G e y)) (kH P G all os Q e d) := opsW_of_hst rfl (fun _ => rfl)
@[go_sem] theorem opsW_buildSlice (t : TypeId) (n : Nat) (ps : List (Nat × Operand)) : opsW P G all (⟨d, .buildSlice t n ⟨ps⟩, T, p, af, none⟩ :: os) Q e H = oH (bsA P H t n (ps.map fun q => (q.1, ev G e q.2))) (kH P G all os Q e d) := opsW_of_hst rfl (fun _ => rfl)
@[go_sem] theorem opsW_append (s x : Operand) (tS tX : TypeId) : opsW P G all (⟨d, .call ⟨.builtin .append, ⟨[s, x]⟩, ⟨[tS, tX]⟩⟩, T, p, af, none⟩ :: os) Q e H = oH (apA P H tS tX (ev G e s) (ev G e x)) (kH P G all os Q e d) := opsW_of_hst rfl (fun _ => rfl)

@[go_sem] theorem opsW_makeMap (t : TypeId) : opsW P G all (⟨d, .makeMap t none, T, p, af, none⟩ :: os) Q e H = oH (some (.mp H.length, H ++ [.mp []])) (kH P G all os Q e d) := opsW_of_hst rfl (fun _ => rfl)
@[go_sem] theorem opsW_lookup (t : TypeId) (x k : Operand) (ok : Bool) : opsW P G all (⟨d, .lookup t x k ok, T, p, af, none⟩ :: os) Q e H = oH (luA P H t (ev G e x) (ev G e k) ok) (kH P G all os Q e d) := opsW_of_hst rfl (fun _ => rfl)
@[go_sem] theorem opsW_mapUpdate (t : TypeId) (x k y : Operand) : opsW P G all (⟨d, .mapUpdate t x k y, T, p, af, none⟩ :: os) Q e H = oH (muA P H t (ev G e x) (ev G e k) (ev G e y)) (kH P G all os Q e d) := opsW_of_hst rfl (fun _ => rfl)

/-- A load, from what is known for good or from a box. -/
def ldX (P : Program) (H : List HO) (t : TypeId) (x : AV) : Option (AV × List HO) :=
  match x with
  | .d (.eptr cs off) => match partA P t (cs.map .d) off with | some r => some (r, H) | none => none
  | .ptr id off =>
    match H[id]? with
    | some (.box cs) => match partA P t cs off with | some r => some (r, H) | none => none
    | _ => none
  | _ => none
@[go_sem] theorem opsW_load (t : TypeId) (x : Operand) : opsW P G all (⟨d, .load t x, T, p, af, none⟩ :: os) Q e H = oH (ldX P H t (ev G e x)) (kH P G all os Q e d) := by
  simp only [opsW, wantA, gW, stepW, pst, hst, ldA, ldB, ldX, opCall]
  cases ev G e x <;> try rfl
  · rename_i y
    cases y <;> try rfl
    rename_i cs off
    cases hp : partA P t (List.map AV.d cs) off <;> simp [hp, oH, kH]
  all_goals (rename_i id off; cases H[id]? <;> try rfl)
  all_goals (rename_i o; cases o <;> try rfl)
  all_goals (rename_i cs; simp only; cases hp : partA P t cs off <;> simp [hp, oH, kH])

/-- A conversion. -/
def cvX (P : Program) (H : List HO) (s t : TypeId) (x : AV) : Option (AV × List HO) :=
  match cvA P s t x with
  | some r => some (r, H)
  | none => cvH P H s t x
@[go_sem] theorem opsW_convert (s t : TypeId) (x : Operand) : opsW P G all (⟨d, .convert s t x, T, p, af, none⟩ :: os) Q e H = oH (cvX P H s t (ev G e x)) (kH P G all os Q e d) := by
  simp only [opsW, wantA, gW, stepW, pst, hst, cvX, opCall]
  cases cvA P s t (ev G e x) with
  | some r => rfl
  | none =>
    simp only
    cases cvH P H s t (ev G e x) <;> rfl

/-- A call that waits for its contract. -/
def callK (P : Program) (G : Gl) (fv : AV) (args : List AV) (H : List HO) (k : AV → List HO → Prop) : Prop := callW P G fv args H k
@[congr] theorem callK_congr {fv fv' : AV} {args args' : List AV} {H H' : List HO} {k : AV → List HO → Prop} (h : fv = fv') (h' : args = args') (h'' : H = H') : callK P G fv args H k = callK P G fv' args' H' k := by rw [h, h', h'']
@[go_sem] theorem opsW_call (f : Operand) (args : List Operand) (ts : Array TypeId) : opsW P G all (⟨d, .call ⟨.value f, ⟨args⟩, ts⟩, T, p, af, none⟩ :: os) Q e H = callK P G (ev G e f) (args.map (ev G e)) H (kH P G all os Q e d) := (rfl)

theorem callK_pf {f : FuncId} {args : List AV} {ds : List DV} {r : DV} {k : AV → List HO → Prop} (h : PF P G f ds r) (ha : normAL args = ds.map .d) (hk : k (.d r) H) : callK P G (.d (.func f)) args H k :=
  ⟨.d r, H, by rw [ha]; exact h H, hk⟩
theorem callK_fn {f : FuncId} {args as : List AV} {r : AV} {H' : List HO} {k : AV → List HO → Prop} (h : Fn P G f as H r H') (ha : normAL args = as) (hk : k r H') : callK P G (.d (.func f)) args H k :=
  ⟨r, H', by rw [ha]; exact h, hk⟩
theorem callK_clo {f : FuncId} {args as caps : List AV} {r : AV} {H' : List HO} {k : AV → List HO → Prop} (h : Fn P G f as H r H') (ha : normAL args ++ caps = as) (hk : k r H') : callK P G (.clo f caps) args H k :=
  ⟨r, H', by rw [ha]; exact h, hk⟩
end

/-! Guards -/
@[go_sem] theorem wantA_eq (all : Array Oper) (e : Env) (j : Nat) (b : Bool) : wantA all e (some (j, b)) = (match dstOf all j with | some t => wantV (e t) b | none => none) := (rfl)
@[go_sem] theorem dstOf_zero (d : Option Tmp) (op : Op) (T : TypeId) (p : String) (af : Array Edge) (g : Option (Nat × Bool)) (l : List Oper) : dstOf ⟨⟨d, op, T, p, af, g⟩ :: l⟩ 0 = d := (rfl)
@[go_sem] theorem dstOf_succ (o : Oper) (l : List Oper) (j : Nat) : dstOf ⟨o :: l⟩ (j + 1) = dstOf ⟨l⟩ j := by simp [dstOf]
@[go_sem] theorem wantV_bool (c b : Bool) : wantV (.d (.bool c)) b = some (c == b) := (rfl)
@[go_sem] theorem wantV_tup (xs : List DV) (b : Bool) : wantV (.d (.tup xs)) b = some false := (rfl)

end Go.Proofs.YtjmldlknegbimaaDoor.Sx
