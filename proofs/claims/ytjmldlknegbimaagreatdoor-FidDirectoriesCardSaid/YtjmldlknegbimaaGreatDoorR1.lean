/- Arguments that can be read as data are abstract data of their types' shapes; what a law's contract gives its row. -/
import Derived.Test.YtjmldlknegbimaaGreatDoorM3
import Derived.RowKit
import Derived.ChangeSame
import Derived.Carry
import Derived.ChangeShapes
set_option linter.unusedVariables false
set_option linter.unusedSimpArgs false
namespace Go.Proofs.YtjmldlknegbimaaGreatDoor.Sx
open Go Go.RowKit

inductive Sh where
  | int (k : IntKind) | bool | str
  | st (fs : List Sh)
  | sl (e : Sh)

mutual
def Sh.cells : Sh → Nat
  | .st fs => Sh.cellsL fs
  | .int _ => 1
  | .bool => 1
  | .str => 1
  | .sl _ => 1
def Sh.cellsL : List Sh → Nat
  | [] => 0
  | f :: r => Sh.cells f + Sh.cellsL r
end

mutual
/-- Data of a shape: its cells. -/
def Has : Sh → List DV → Prop
  | .int k, ds => ∃ n, ds = [.int k n] ∧ (Lit.int k n).wf = true
  | .bool, ds => ∃ b, ds = [.bool b]
  | .str, ds => ∃ s, ds = [.str s] ∧ s.length ≤ maxLen
  | .st fs, ds => HasL fs ds
  | .sl e, ds => ∃ es : List (List DV), ds = [.sl .any es] ∧ es.length ≤ maxLen ∧ ∀ x ∈ es, Has e x
def HasL : List Sh → List DV → Prop
  | [], ds => ds = []
  | f :: r, ds => ∃ a b, ds = a ++ b ∧ Has f a ∧ HasL r b
end

mutual
/-- The type bears the shape. -/
def Bears (P : Program) : Sh → TypeId → Prop
  | .int k, t => P.underlying t = some (.int k) ∧ P.cellsOf t = 1
  | .bool, t => P.underlying t = some .bool ∧ P.cellsOf t = 1
  | .str, t => P.underlying t = some .string ∧ P.cellsOf t = 1
  | .st fs, t => ∃ fl, P.underlying t = some (.struct fl) ∧ BearsL P fs 0 fl.toList ∧ P.cellsOf t = Sh.cellsL fs
  | .sl e, t => ∃ u, P.underlying t = some (.slice u) ∧ Bears P e u ∧ P.cellsOf t = 1
def BearsL (P : Program) : List Sh → Nat → List Field → Prop
  | [], _, fl => fl = []
  | s :: r, off, fl => ∃ f rest, fl = f :: rest ∧ f.offset = off ∧ Bears P s f.type ∧ BearsL P r (off + Sh.cells s) rest
end

mutual
def bearsB (P : Program) : Sh → TypeId → Bool
  | .int k, t => match P.underlying t with | some (.int k') => decide (k' = k) && P.cellsOf t == 1 | _ => false
  | .bool, t => match P.underlying t with | some .bool => P.cellsOf t == 1 | _ => false
  | .str, t => match P.underlying t with | some .string => P.cellsOf t == 1 | _ => false
  | .st fs, t => match P.underlying t with | some (.struct fl) => bearsLB P fs 0 fl.toList && P.cellsOf t == Sh.cellsL fs | _ => false
  | .sl e, t => match P.underlying t with | some (.slice u) => bearsB P e u && P.cellsOf t == 1 | _ => false
def bearsLB (P : Program) : List Sh → Nat → List Field → Bool
  | [], _, fl => fl.isEmpty
  | s :: r, off, fl => match fl with | [] => false | f :: rest => f.offset == off && (bearsB P s f.type && bearsLB P r (off + Sh.cells s) rest)
end
mutual
theorem bears_of {P : Program} : ∀ {s : Sh} {t : TypeId}, bearsB P s t = true → Bears P s t
  | .int k, t, h => by
    unfold bearsB at h
    unfold Bears
    split at h
    · rename_i k' hk; simp at h; exact ⟨by rw [hk, h.1], h.2⟩
    · contradiction
  | .bool, t, h => by
    unfold bearsB at h
    unfold Bears
    split at h
    · rename_i hk; simp at h; exact ⟨hk, h⟩
    · contradiction
  | .str, t, h => by
    unfold bearsB at h
    unfold Bears
    split at h
    · rename_i hk; simp at h; exact ⟨hk, h⟩
    · contradiction
  | .st fs, t, h => by
    unfold bearsB at h
    unfold Bears
    split at h
    · rename_i fl hk
      rw [Bool.and_eq_true, beq_iff_eq] at h
      exact ⟨fl, hk, bearsL_of h.1, h.2⟩
    · contradiction
  | .sl e, t, h => by
    unfold bearsB at h
    unfold Bears
    split at h
    · rename_i u hk
      rw [Bool.and_eq_true, beq_iff_eq] at h
      exact ⟨u, hk, bears_of h.1, h.2⟩
    · contradiction
theorem bearsL_of {P : Program} : ∀ {fs : List Sh} {off : Nat} {fl : List Field}, bearsLB P fs off fl = true → BearsL P fs off fl
  | [], off, fl, h => by
    unfold bearsLB at h
    unfold BearsL
    simpa using h
  | s :: r, off, fl, h => by
    unfold bearsLB at h
    unfold BearsL
    split at h
    · contradiction
    · rename_i f rest
      rw [Bool.and_eq_true, Bool.and_eq_true, beq_iff_eq] at h
      exact ⟨f, rest, rfl, h.1, bears_of h.2.1, bearsL_of h.2.2⟩
end

theorem bears_cells {P : Program} : ∀ {s : Sh} {t : TypeId}, Bears P s t → P.cellsOf t = s.cells
  | .int k, t, h => by simp only [Bears] at h; rw [h.2]; rfl
  | .bool, t, h => by simp only [Bears] at h; rw [h.2]; rfl
  | .str, t, h => by simp only [Bears] at h; rw [h.2]; rfl
  | .st fs, t, h => by simp only [Bears] at h; obtain ⟨fl, _, _, h⟩ := h; rw [h]; rfl
  | .sl e, t, h => by simp only [Bears] at h; obtain ⟨u, _, _, h⟩ := h; rw [h]; rfl

theorem mapM_some {α β : Type} {f : α → Option β} : ∀ {l : List α} {ys : List β}, l.mapM f = some ys → ys.length = l.length ∧ ∀ (i : Nat) (x : α), l[i]? = some x → ∃ y, ys[i]? = some y ∧ f x = some y
  | [], ys, h => by simp at h; subst h; exact ⟨rfl, fun i x hx => by simp at hx⟩
  | a :: l, ys, h => by
    simp only [List.mapM_cons, Option.bind_eq_bind, Option.bind_eq_some_iff] at h
    obtain ⟨y, hy, zs, hzs, he⟩ := h
    simp only [Option.pure_def, Option.some.injEq] at he
    subst he
    obtain ⟨h1, h2⟩ := mapM_some hzs
    refine ⟨by simp [h1], fun i x hx => ?_⟩
    cases i with
    | zero => simp at hx; subst hx; exact ⟨y, rfl, hy⟩
    | succ i => simpa using h2 i x (by simpa using hx)

/-- All memory that is there. -/
def memOf (w : World) : Mem := fun a => w.cell? a

section
variable {H : Type} {enc : TypeId × Value → H} {P : Program} {w : World} {base : Nat} {spare : Nat → Bool} {held : Bool}

def Reads (w : World) (s : Sh) (cs : List Value) : Prop := ∃ ds : List DV, Has s ds ∧ ds.length = cs.length ∧ ∀ i, i < cs.length → Rel (memOf w) (ds.getD i .nilp) (cs.getD i undef)

theorem getD_toList' (vs : Array Value) (i : Nat) : vs.toList.getD i undef = vs.getD i undef := getD_toList vs i

theorem reads_of_trod : ∀ (n : Nat) (s : Sh) (t : TypeId) (cs : List Value) (x : DataW H × List MemPlace), Bears P s t → DataW.trod enc P w base spare held n t cs = some x → Reads w s cs := by
  intro n
  induction n with
  | zero => intro s t cs x _ h; simp [DataW.trod] at h
  | succ n ih =>
    intro s t cs x hb h
    cases s with
    | int k =>
      simp only [Bears] at hb
      unfold DataW.trod at h
      rw [hb.1] at h
      rcases cs with _ | ⟨v, _ | ⟨v2, r⟩⟩
      · simp at h
      · cases v with
        | int k' m =>
          simp only at h
          split at h
          · rename_i hc
            obtain ⟨rfl, hc⟩ := hc
            refine ⟨[.int k' m], ⟨m, rfl, hc⟩, rfl, fun i hi => ?_⟩
            obtain rfl : i = 0 := by simpa using hi
            exact .int _ _
          · contradiction
        | _ => simp at h
      · simp at h
    | bool =>
      simp only [Bears] at hb
      unfold DataW.trod at h
      rw [hb.1] at h
      rcases cs with _ | ⟨v, _ | ⟨v2, r⟩⟩
      · simp at h
      · cases v with
        | bool b =>
          refine ⟨[.bool b], ⟨b, rfl⟩, rfl, fun i hi => ?_⟩
          obtain rfl : i = 0 := by simpa using hi
          exact .bool _
        | _ => simp at h
      · simp at h
    | str =>
      simp only [Bears] at hb
      unfold DataW.trod at h
      rw [hb.1] at h
      rcases cs with _ | ⟨v, _ | ⟨v2, r⟩⟩
      · simp at h
      · cases v with
        | string b =>
          simp only at h
          split at h
          · rename_i hc
            obtain ⟨⟨l⟩⟩ := b
            refine ⟨[.str l], ⟨l, rfl, by simpa [ByteArray.size] using hc⟩, rfl, fun i hi => ?_⟩
            obtain rfl : i = 0 := by simpa using hi
            exact .str _
          · contradiction
        | _ => simp at h
      · simp at h
    | st fs =>
      simp only [Bears] at hb
      obtain ⟨fl, hu, hbl, hcells⟩ := hb
      unfold DataW.trod at h
      rw [hu] at h
      simp only at h
      split at h
      · rename_i hlen
        rw [Option.map_eq_some_iff] at h
        obtain ⟨xs, hxs, _⟩ := h
        obtain ⟨_, hm⟩ := mapM_some hxs
        rw [hcells] at hlen
        have key : ∀ (fs : List Sh) (off : Nat) (fl' : List Field), BearsL P fs off fl' → (∀ f ∈ fl', ∃ y, DataW.trod enc P w base spare held n f.type ((cs.drop f.offset).take (P.cellsOf f.type)) = some y) →
            cs.length = off + Sh.cellsL fs → ∃ ds, HasL fs ds ∧ ds.length = Sh.cellsL fs ∧ ∀ i, i < Sh.cellsL fs → Rel (memOf w) (ds.getD i .nilp) (cs.getD (off + i) undef) := by
          intro fs
          induction fs with
          | nil => intro off fl' hb _ _; exact ⟨[], rfl, rfl, fun i hi => by simp [Sh.cellsL] at hi⟩
          | cons f r ih2 =>
            intro off fl' hb hr hl
            simp only [BearsL] at hb
            obtain ⟨fd, rest, rfl, hoff, hbf, hbr⟩ := hb
            simp only [Sh.cellsL] at hl ⊢
            obtain ⟨y, hy⟩ := hr fd (by simp)
            obtain ⟨ds1, a1, a2, a3⟩ := ih f fd.type _ _ hbf hy
            obtain ⟨ds2, b1, b2, b3⟩ := ih2 (off + f.cells) rest hbr (fun g hg => hr g (by simp [hg])) (by omega)
            have hfc := bears_cells hbf
            rw [hoff, hfc] at a2 a3
            have hl1 : ds1.length = f.cells := by rw [a2]; simp; omega
            refine ⟨ds1 ++ ds2, ⟨ds1, ds2, rfl, a1, b1⟩, by simp [hl1, b2], fun i hi => ?_⟩
            rw [List.getD_eq_getElem?_getD, List.getElem?_append]
            split
            · rename_i hi1
              have := a3 i (by simp; omega)
              rw [List.getD_eq_getElem?_getD] at this
              rw [List.getD_eq_getElem?_getD, List.getElem?_take, if_pos (by omega), List.getElem?_drop, ← List.getD_eq_getElem?_getD] at this
              exact this
            · rename_i hi1
              have := b3 (i - ds1.length) (by omega)
              rw [List.getD_eq_getElem?_getD] at this
              rw [show off + i = off + f.cells + (i - ds1.length) from by omega]
              exact this
        obtain ⟨ds, k1, k2, k3⟩ := key fs 0 fl.toList hbl (fun f hf => by
          obtain ⟨i, hi⟩ := List.getElem?_of_mem hf
          obtain ⟨y, _, hy⟩ := hm i f hi
          exact ⟨y, hy⟩) (by omega)
        refine ⟨ds, k1, by omega, fun i hi => ?_⟩
        simpa using k3 i (by omega)
      · contradiction
    | sl e =>
      simp only [Bears] at hb
      obtain ⟨u, hu, hbe, _⟩ := hb
      unfold DataW.trod at h
      rw [hu] at h
      rcases cs with _ | ⟨v, _ | ⟨v2, r⟩⟩
      · simp at h
      rotate_left
      · simp at h
      have hv : ∃ oa len cap, v = .slice oa len cap := by
        cases v with
        | slice oa len cap => exact ⟨_, _, _, rfl⟩
        | _ => simp at h
      obtain ⟨oa, len, cap, rfl⟩ := hv
      cases oa with
      | none =>
        have : len = 0 ∧ cap = 0 := by
          rcases len with _ | len
          · rcases cap with _ | cap
            · exact ⟨rfl, rfl⟩
            · simp at h
          · simp at h
        obtain ⟨rfl, rfl⟩ := this
        refine ⟨[.sl .any []], ⟨[], rfl, Nat.zero_le _, fun x hx => by simp at hx⟩, rfl, fun i hi => ?_⟩
        obtain rfl : i = 0 := by simpa using hi
        exact .slnil _
      | some a =>
        simp only at h
        split at h
        · rename_i hc
          rw [Option.bind_eq_some_iff] at h
          obtain ⟨elems, hel, _⟩ := h
          obtain ⟨hel1, hel2⟩ := mapM_some hel
          have hsz := bears_cells hbe
          have each : ∀ i, i < len → ∃ ds : List DV, Has e ds ∧ ds.length = e.cells ∧ ∀ j, j < e.cells → ∃ v, w.cell? (a.add (i * e.cells + j)) = some v ∧ Rel (memOf w) (ds.getD j .nilp) v := by
            intro i hi
            obtain ⟨y, _, hy⟩ := hel2 i i (by simp [hi])
            rw [Option.bind_eq_some_iff] at hy
            obtain ⟨ecs, hecs, htr⟩ := hy
            obtain ⟨ds, d1, d2, d3⟩ := ih e u _ _ hbe htr
            obtain ⟨q1, q2, q3⟩ := World.cells?_some hecs
            rw [hsz] at hecs q1 q2 q3
            refine ⟨ds, d1, by omega, fun j hj => ?_⟩
            have := q3 j (by omega)
            rw [Addr.add_add] at this
            refine ⟨ecs.getD j undef, ?_, d3 j (by omega)⟩
            rw [this, List.getD_eq_getElem?_getD]
            have : j < ecs.length := by omega
            simp [this]
          have hch : ∃ f : Nat → List DV, ∀ i, i < len → Has e (f i) ∧ (f i).length = e.cells ∧ ∀ j, j < e.cells → ∃ v, w.cell? (a.add (i * e.cells + j)) = some v ∧ Rel (memOf w) ((f i).getD j .nilp) v :=
            ⟨fun i => if hi : i < len then (each i hi).choose else [], fun i hi => by simp only [dif_pos hi]; exact (each i hi).choose_spec⟩
          obtain ⟨f, hf⟩ := hch
          have hget : ∀ i, i < len → ((List.range len).map f).getD i [] = f i := fun i hi => by simp [List.getD_eq_getElem?_getD, hi]
          refine ⟨[.sl .any ((List.range len).map f)], ⟨_, rfl, by simp; omega, fun x hx => ?_⟩, rfl, fun i hi => ?_⟩
          · simp only [List.mem_map, List.mem_range] at hx
            obtain ⟨i, hi, rfl⟩ := hx
            exact (hf i hi).1
          · obtain rfl : i = 0 := by simpa using hi
            have hlen : ((List.range len).map f).length = len := by simp
            have := Rel.sl (K := memOf w) .any ((List.range len).map f) a cap e.cells (fun i j => (w.cell? (a.add (i * e.cells + j))).getD undef) (by simp) (by simp) (by rw [hlen]; exact hc.2.1)
              (fun i hi => by rw [hlen] at hi; rw [hget i hi]; exact (hf i hi).2.1)
              (fun i j hi hj => by rw [hlen] at hi; obtain ⟨v, hv, _⟩ := (hf i hi).2.2 j hj; simp [memOf, hv])
              (fun i j hi hj => by rw [hlen] at hi; obtain ⟨v, hv, hr⟩ := (hf i hi).2.2 j hj; rw [hget i hi]; simpa [hv] using hr)
            rw [hlen] at this
            exact this
        · contradiction
def argD (s : Sh) (ds : List DV) : DV := match s with | .st _ => .agg ds | _ => ds.getD 0 .nilp

theorem arg_read {r : Reach} {b0 : Nat} {s : Sh} {t : TypeId} {v : Value} {d : DataW H} {ps : List MemPlace} (hb : Bears P s t) (h : DataW.Trod enc P w base spare held t v d ps) (hval : Value.okWide P w r b0 t v) :
    ∃ ds, Has s ds ∧ Rel (memOf w) (argD s ds) v := by
  obtain ⟨n, hn⟩ := h
  obtain ⟨ds, h1, h2, h3⟩ := reads_of_trod n s t _ _ hb hn
  refine ⟨ds, h1, ?_⟩
  have one : (∀ cs, v ≠ .agg cs) → ds.length = 1 → Rel (memOf w) (ds.getD 0 .nilp) v := fun hne hl => by
    have hc : v.cells.toList = [v] := by cases v <;> first | rfl | exact absurd rfl (hne _)
    rw [hc] at h3
    simpa using h3 0 (by simp)
  cases s with
  | int k =>
    simp only [Bears] at hb
    obtain ⟨m, rfl, _⟩ := h1
    refine one (fun cs hcs => ?_) rfl
    subst hcs
    simp [Value.okWide, hb.1, Cell.okWide, Cell.ok] at hval
  | bool =>
    simp only [Bears] at hb
    obtain ⟨m, rfl⟩ := h1
    refine one (fun cs hcs => ?_) rfl
    subst hcs
    simp [Value.okWide, hb.1, Cell.okWide, Cell.ok] at hval
  | str =>
    simp only [Bears] at hb
    obtain ⟨m, rfl, _⟩ := h1
    refine one (fun cs hcs => ?_) rfl
    subst hcs
    simp [Value.okWide, hb.1, Cell.okWide, Cell.ok] at hval
  | sl e =>
    simp only [Bears] at hb
    obtain ⟨u, hu, _⟩ := hb
    obtain ⟨m, rfl, _⟩ := h1
    refine one (fun cs hcs => ?_) rfl
    subst hcs
    simp [Value.okWide, hu, Cell.okWide, Cell.ok] at hval
  | st fs =>
    simp only [Bears] at hb
    obtain ⟨fl, hu, _⟩ := hb
    simp only [Value.okWide, hu] at hval
    obtain ⟨cs, rfl, _⟩ := hval
    simp only [argD, Value.cells] at h2 h3 ⊢
    refine .agg _ _ (by simpa using h2.symm) fun i hi => ?_
    have := h3 i (by simpa [h2] using hi)
    rwa [getD_toList'] at this

/-- A law that is proved of all abstract data is proved of every call. -/
theorem law_calls {G : Gl} {f : FuncId} {xs : List DV} {vs : Array Value} (hp : PF P G f xs (.bool true)) (hG : GOk (memOf w) G) (hl : vs.size = xs.length) (hr : ∀ i, i < xs.length → Rel (memOf w) (xs.getD i .nilp) (vs.getD i undef)) :
    Calls P f vs w fun e w' => e = .returned (.bool true) ∧ Below w.heap.size w w' := by
  have hsr : SR ⟨w, memOf w, fun _ => ⟨0, undef, 0, 0⟩, 0⟩ (memOf w) (fun _ => ⟨0, undef, 0, 0⟩) [] w :=
    ⟨fun a v h => h, Below.refl _ _, Mem.le_refl _, fun _ _ => rfl, Nat.zero_le _, fun i hi => absurd hi (Nat.not_lt_zero _), fun i h hi => by simp at hi, fun i j h h' b hi => by simp at hi⟩
  refine ((hp []).2 _ _ _ w vs hsr hG (by simpa using hl) (fun i hi => ?_)).mono ?_
  · rw [getD_map' AV.d xs i .nilp _ (by simpa using hi)]
    exact .d _ _ (hr i (by simpa using hi))
  · rintro e w' ⟨v, rfl, K', ι', h1, h2, _⟩
    have hg := h2.get
    cases hg
    exact ⟨rfl, h1.below⟩

theorem trodAll_below (hl : laidOutB P = true) {W' : World} (hb : Below w.heap.size w W') : ∀ {ts : List TypeId} {vs : List Value} {ds : List (DataW H)} {ps : List MemPlace},
    (∀ t ∈ ts, P.readableRec t = true ∧ t < P.types.size) → DataW.TrodAll enc P w 0 (fun _ => true) true ts vs ds ps → (∀ x ∈ ps, x.block < w.heap.size) → DataW.TrodAll enc P W' 0 (fun b => decide (b < w.heap.size)) true ts vs ds ps
  | [], [], [], ps, _, h, _ => h
  | t :: ts, v :: vs, d :: ds, ps, hr, h, hx => by
    obtain ⟨p, q, h1, h2, he⟩ := h
    subst he
    exact ⟨p, q, Below.trod hl (hr t (by simp)).1 (hr t (by simp)).2 h1 hb (fun x hp => hx x (by simp [hp])), trodAll_below hl hb (fun t ht => hr t (by simp [ht])) h2 (fun x hq => hx x (by simp [hq])), rfl⟩
/-- What a law's call leaves meets its row. -/
theorem law_post {f : Func} {s : ChangeSpec} {tb : TypeId} {args : Array Value} {ds gs : List (DataW H)} {before : List MemPlace} {W' : World} (hv : s.vars = []) (hl : laidOutB P = true) (hp : ∀ t ∈ f.params.toList, P.readableRec t = true ∧ t < P.types.size)
    (hrt : f.resultTypes = #[tb]) (htb : P.underlying tb = some .bool) (hres : (s.fn H (ds ++ gs)).results = [.lit (.bool true)]) (hargs : (s.fn H (ds ++ gs)).args = ds) (hvars : (s.fn H (ds ++ gs)).vars = [])
    (hW : DataW.Whole enc P f.params.toList s.vars false w args.toList ds gs before) (hb : Below w.heap.size w W') : s.post enc P f false true false false w args (.bool true) W' := by
  have hlt : ∀ p ∈ before, p.block < w.heap.size := fun p hp => hW.lt p hp
  have hW' := hW
  obtain ⟨p, q, h1, h2, rfl, h4, h5⟩ := hW
  refine ⟨ds, gs, p ++ q, [], p, [], hW', ?_, ?_, ?_, hb.frame _, fun h => by cases h⟩
  · rw [hrt, hres]
    exact ⟨[], [], ⟨1, by simp [DataW.trod, htb, Value.cells]⟩, rfl, rfl⟩
  · rw [hargs]
    exact trodAll_below hl hb hp h1 (fun x hx => hlt x (by simp [hx]))
  · rw [hv, hvars]; rfl
end
end Go.Proofs.YtjmldlknegbimaaGreatDoor.Sx
