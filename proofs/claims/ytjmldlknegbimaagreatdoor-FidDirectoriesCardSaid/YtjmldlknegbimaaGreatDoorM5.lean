/- The library, joined: A20 A21 A22 A23. -/
import Derived.Test.YtjmldlknegbimaaGreatDoorM4
import Derived.Shelf.Strings.BuilderRune
/- strings.Builder, on the machine: what its methods do to the builder, and that they touch nothing else. Own library, part 20. -/
set_option linter.unusedVariables false
set_option linter.unusedSimpArgs false
namespace Go.Proofs.YtjmldlknegbimaaGreatDoor.Sx
open Go Go.Shelf Go.RowKit Go.Proofs

/-- A builder in block b: what its buffer is and what it holds. -/
structure BdAt (T e : TypeId) (B b : Nat) (v : Value) (l : List UInt8) (w : World) : Prop where
  le : B ≤ b
  head : ∃ p, w.heap[b]? = some (.cells #[p, v] T (0, 0)) ∧ (p = .pointer none ∨ p = .pointer (some ⟨b, 0, none⟩))
  own : w.ownsRowF B e 1 v l.length (Lib.byteCells l)
  ne : v.ownBlock ≠ some b
  nil : l = [] → v = .slice none 0 0

/-- Nothing but the blocks b and g was touched. -/
structure Near (b : Nat) (g : Option Nat) (w w' : World) : Prop where
  os : w'.os = w.os
  tape : w'.tape = w.tape
  output : w'.output = w.output
  size : w.heap.size ≤ w'.heap.size
  block : ∀ k, k < w.heap.size → k ≠ b → some k ≠ g → w'.heap[k]? = w.heap[k]?

def sameOrNew (v v' : Value) (n : Nat) : Prop := v'.ownBlock = v.ownBlock ∨ ∃ g, v'.ownBlock = some g ∧ n ≤ g

def BdPost (T e : TypeId) (B b : Nat) (v : Value) (w w' : World) (l' : List UInt8) : Prop :=
  ∃ v', BdAt T e B b v' l' w' ∧ sameOrNew v v' w.heap.size ∧ Near b v.ownBlock w w'

section
variable {P : Program} {ρ : Ren} {w w' : World} {T e : TypeId} {B b : Nat} {v : Value} {l : List UInt8}

theorem bd_cells (hown : w.ownsRowF B e 1 v l.length (Lib.byteCells l)) : Rel w.cell? (.sl .any (l.map byteEl)) v := by
  rcases hown.2 with ⟨rfl, h0⟩ | ⟨g, cap, cur, fz, rfl, hbg, hg, hfz, hnc, hcm, hcs, htake⟩
  · have : l = [] := List.length_eq_zero_iff.1 h0
    subst this
    exact .slnil _
  · have hc : ∀ q, w.cell? ⟨g, q, none⟩ = cur[q]? := Lib.cell_of_heap hg
    have := rel_row (K := w.cell?) (es := l.map byteEl) (sz := 1) (b := g) (o := 0) (cap := cap) (vs := cur) (st := .any) (by simp) (by simp) (by simpa using hnc) (szOk_map _ _ (fun _ => rfl)) (fun q _ hq => by
      have hq' : q < cur.size := by simp at hq; omega
      rw [hc]; simp [Array.getD, hq']) (fun i j hi hj => by
      have hi' : i < l.length := by simpa using hi
      obtain rfl : j = 0 := by omega
      rw [getD_map' byteEl l i 0 [] hi']
      have hq' : i < cur.size := by omega
      have e1 : cur.getD (0 + (i * 1 + 0)) undef = .int .u8 (l[i].toNat : Int) := by
        have h1 : (cur.toList.take (l.length * 1))[i]? = (Lib.byteCells l)[i]? := by rw [htake]
        rw [List.getElem?_take_of_lt (by omega)] at h1
        simp only [Lib.byteCells, List.getElem?_map, List.getElem?_eq_getElem hi', Option.map_some] at h1
        rw [show 0 + (i * 1 + 0) = i by omega]
        simp only [Array.getElem?_toList] at h1
        simp [Array.getD_eq_getD_getElem?, h1]
      rw [e1]
      have e2 : l.getD i 0 = l[i] := by simp [List.getD_eq_getElem?_getD, hi']
      rw [e2]
      exact .int _ _)
    simpa using this

/-- Where the row that append hands back lies. -/
theorem bapp_where {tS tX ty : TypeId} {kX : TK} (hS : tk P tS = some (.slice e)) (hz : tsz P e = some 1) (hb : tby P e = some 1) (hzv : tz P e = some (.int .u8 0)) (hX : tk P tX = some kX) (hX' : srcK kX = true)
    (hown : w.ownsRowF B e 1 v l.length (Lib.byteCells l)) {new : List (List DV)} {x : Value} {news : List Value} (hsrc : Src P w.cell? 1 new x w news) (hlen : l.length + new.length ≤ 140737488355328)
    {v' : Value} (hrun : (Builtin.append_ #[tS, tX] ty #[v, x]).run P w = .ok v' w') : sameOrNew v v' w.heap.size := by
  have hrel := bd_cells hown
  obtain ⟨olds, hold⟩ := src_sound (P := P) (K := w.cell?) (ι := fun _ => ⟨0, undef, 0, 0⟩) (n := 0) (z := 1) (x := .d (.sl .any (l.map byteEl))) (v := v) (new := l.map byteEl) rfl (.d _ _ hrel) (elOk_bytes l) w
  obtain ⟨base, cap, rfl⟩ : ∃ base cap, v = .slice base l.length cap := by
    rcases hown.2 with ⟨h, h0⟩ | ⟨g, cap, cur, fz, h, _⟩
    · exact ⟨none, 0, by rw [h, h0]⟩
    · exact ⟨_, cap, h⟩
  by_cases hroom : l.length + new.length ≤ cap
  · rw [run_app_room hS hz hX hX' ty base l.length cap x hsrc.len (hsrc.run w fun _ _ h => h) hroom] at hrun
    cases base with
    | none =>
      simp only [Result.ok.injEq] at hrun
      obtain ⟨rfl, _⟩ := hrun
      exact .inl rfl
    | some a =>
      simp only at hrun
      cases hst : (storeCells (a.add (l.length * 1)) news.toArray.toList).run P w with
      | ok u w1 =>
        rw [hst] at hrun
        simp only [Result.andThen, Result.ok.injEq] at hrun
        obtain ⟨rfl, _⟩ := hrun
        exact .inl rfl
      | halt s w1 => rw [hst] at hrun; simp [Result.andThen] at hrun
  · have h1 := hold.run w.drew (fun _ _ h => h)
    rw [List.length_map] at h1
    rw [run_app_grow hS hz hb hzv hX hX' ty base l.length cap x hsrc.len h1 (hsrc.run w.drew fun _ _ h => h) (by omega) (by omega) (by omega)] at hrun
    simp only [Result.ok.injEq] at hrun
    obtain ⟨rfl, _⟩ := hrun
    exact .inr ⟨_, rfl, Nat.le_refl _⟩

end
end Go.Proofs.YtjmldlknegbimaaGreatDoor.Sx

/- strings.Builder, on the machine: copyCheck, Len, WriteString, WriteRune, String over any program that bears them. Own library, part 21. -/
set_option linter.unusedVariables false
set_option linter.unusedSimpArgs false
namespace Go.Proofs.YtjmldlknegbimaaGreatDoor.Sx
open Go Go.Shelf Go.RowKit Go.Proofs
section
variable {P : Program} {ρ : Ren} {w w' : World} {T e : TypeId} {B b : Nat} {v : Value} {l : List UInt8}

theorem tk_of_slice {t e : TypeId} (h : P.underlying t = some (.slice e)) : tk P t = some (.slice e) := by simp [tk, h, TK.of]
theorem tk_of_string {t : TypeId} (h : P.underlying t = some .string) : tk P t = some .string := by simp [tk, h, TK.of]

theorem wpList_bapp_str {ops : Array Oper} {rest : List Oper} {o : Oper} {a : Act} {Q : Exit → Act → World → Prop} (hgd : o.guard = none) (sl x : Operand) (t u : TypeId)
    (ho : o.op = .call { callee := .builtin .append, args := #[sl, x], argTypes := #[t, u] }) (B : Nat) (e : TypeId) (i : TypeInfo) (ht : P.underlying t = some (.slice e)) (hu : P.underlying u = some .string) (hi : P.info? e = some i)
    (hz : i.zero = some (.int .u8 0)) (hsize : i.size = 1) (hby : i.bytes = 1) (v : Value) (l : List UInt8) (hs : a.eval sl = v) (hown : w.ownsRowF B e 1 v l.length (Lib.byteCells l)) (hnil : l = [] → v = .slice none 0 0)
    (s : List UInt8) (hx : a.eval x = .string ⟨s.toArray⟩) (hlen : l.length + s.length ≤ 140737488355328) (hbase : B ≤ w.heap.size)
    (h : ∀ v' w', w'.ownsRowF B e 1 v' (l ++ s).length (Lib.byteCells (l ++ s)) → w.grownBy w' v.ownBlock → sameOrNew v v' w.heap.size → (l ++ s = [] → v' = .slice none 0 0) → wpList P ops Q rest (a.put o.dst v') w') : wpList P ops Q (o :: rest) a w := by
  refine wpList_plain hgd fun K hK => ?_
  have hsz : (⟨s.toArray⟩ : ByteArray).size = s.length := by simp [ByteArray.size]
  obtain ⟨v', w', hr, h2, h3, h4⟩ := Lib.run_append_own_stringF (P := P) (w := w) B t u o.type e i ht hu hi hz hsize hby v l.length (Lib.byteCells l) hown ⟨s.toArray⟩ (by rw [hsz]; unfold maxLen; omega) (by rw [hsz]; exact hlen) hbase
  obtain ⟨news, hsrc⟩ := src_sound (P := P) (K := w.cell?) (ι := fun _ => ⟨0, undef, 0, 0⟩) (n := 0) (z := 1) (x := .d (.str s)) (v := .string ⟨s.toArray⟩) (new := s.map byteEl) rfl (.d _ _ (.str s)) (elOk_bytes s) w
  have hwh := bapp_where (tk_of_slice ht) (by simp [tsz, hi, hsize]) (by simp [tby, hi, hby]) (by simp [tz, hi, hz]) (tk_of_string hu) rfl hown hsrc (by simpa using hlen) hr
  unfold Oper.wp execOp
  simp only [ho, resolve, invoke, builtin, Sem.run_bind, Sem.run_pure, Result.andThen_ok, List.map_toArray, List.map_cons, List.map_nil, hs, hx, hr]
  refine hK _ _ (h v' w' ?_ h3 hwh fun hnl => ?_)
  · rw [hsz, Lib.strCells_eq, ← Lib.byteCells_append] at h2
    simpa using h2
  · have := List.append_eq_nil_iff.1 hnl
    exact h4.2 ⟨hnil this.1, by rw [hsz, this.2]; rfl⟩

theorem wpList_bapp_row {ops : Array Oper} {rest : List Oper} {o : Oper} {a : Act} {Q : Exit → Act → World → Prop} (hgd : o.guard = none) (sl x : Operand) (t : TypeId)
    (ho : o.op = .call { callee := .builtin .append, args := #[sl, x], argTypes := #[t, t] }) (B : Nat) (e : TypeId) (i : TypeInfo) (ht : P.underlying t = some (.slice e)) (hi : P.info? e = some i)
    (hz : i.zero = some (.int .u8 0)) (hsize : i.size = 1) (hby : i.bytes = 1) (v : Value) (l : List UInt8) (hs : a.eval sl = v) (hown : w.ownsRowF B e 1 v l.length (Lib.byteCells l))
    (s : List UInt8) (ad : Addr) (c : Nat) (hx : a.eval x = .slice (some ad) s.length c) (hc : s.length ≤ c) (hnews : ∀ j u, (Lib.byteCells s)[j]? = some u → w.cell? (ad.add j) = some u) (hne : s ≠ []) (hlen : l.length + s.length ≤ 140737488355328) (hbase : B ≤ w.heap.size)
    (h : ∀ v' w', w'.ownsRowF B e 1 v' (l ++ s).length (Lib.byteCells (l ++ s)) → w.grownBy w' v.ownBlock → sameOrNew v v' w.heap.size → wpList P ops Q rest (a.put o.dst v') w') : wpList P ops Q (o :: rest) a w := by
  refine wpList_plain hgd fun K hK => ?_
  obtain ⟨v', w', hr, h2, h3, h4⟩ := run_append_ownF (P := P) w B t o.type e i (.int .u8 0) 1 1 ht hi hz hsize hby rfl (by decide) v l.length (Lib.byteCells l) hown ad s.length c (Lib.byteCells s) (by rw [Lib.byteCells_length]; omega) hnews
    (fun u hu => by simp only [Lib.byteCells, List.mem_map] at hu; obtain ⟨x, _, rfl⟩ := hu; rfl) (by unfold maxLen; omega) (by omega) hbase
  have hrel : Rel w.cell? (.sl .any (s.map byteEl)) (.slice (some ad) s.length c) := by
    have := Rel.sl (K := w.cell?) .any (s.map byteEl) ad c 1 (fun i j => .int .u8 ((s.getD i 0).toNat : Int)) (by simp) (by simp) (by simpa using hc) (fun i hi => by
      have hi' : i < s.length := by simpa using hi
      rw [getD_map' byteEl s i 0 [] hi']; rfl) (fun i j hi hj => by
      have hi' : i < s.length := by simpa using hi
      obtain rfl : j = 0 := by omega
      exact hnews _ _ (by simp [Lib.byteCells, hi', List.getD_eq_getElem?_getD])) (fun i j hi hj => by
      have hi' : i < s.length := by simpa using hi
      obtain rfl : j = 0 := by omega
      rw [getD_map' byteEl s i 0 [] hi']
      exact .int _ _)
    simpa using this
  obtain ⟨news, hsrc⟩ := src_sound (P := P) (K := w.cell?) (ι := fun _ => ⟨0, undef, 0, 0⟩) (n := 0) (z := 1) (x := .d (.sl .any (s.map byteEl))) (v := .slice (some ad) s.length c) (new := s.map byteEl) rfl (.d _ _ hrel) (elOk_bytes s) w
  have hwh := bapp_where (tk_of_slice ht) (by simp [tsz, hi, hsize]) (by simp [tby, hi, hby]) (by simp [tz, hi, hz]) (tk_of_slice ht) rfl hown hsrc (by simpa using hlen) hr
  unfold Oper.wp execOp
  simp only [ho, resolve, invoke, builtin, Sem.run_bind, Sem.run_pure, Result.andThen_ok, List.map_toArray, List.map_cons, List.map_nil, hs, hx, hr]
  refine hK _ _ (h v' w' ?_ h3 hwh)
  rw [← Lib.byteCells_append] at h2
  simpa using h2

/-- The builder behind copyCheck. -/
theorem bcopyCheck (L : Lays.n240 P ρ) (X : Builder.X72 P ρ) (h : BdAt (ρ.t 72) e B b v l w) :
    Calls P (ρ.f 240) #[.pointer (some ⟨b, 0, none⟩)] w fun en w' => en = .returned (.tuple #[]) ∧ w'.heap[b]? = some (.cells #[.pointer (some ⟨b, 0, none⟩), v] (ρ.t 72) (0, 0)) ∧ w'.heap.size = w.heap.size ∧
      (w'.os = w.os ∧ w'.tape = w.tape ∧ w'.output = w.output) ∧ ∀ k, k ≠ b → w'.heap[k]? = w.heap[k]? := by
  obtain ⟨p, hb, hp⟩ := h.head
  have c0 : w.cell? ⟨b, 0, none⟩ = some p := by rw [Lib.cell_of_heap hb]; rfl
  rcases hp with rfl | rfl
  · refine (Any.Builder_copyCheck_fresh L X b w c0 (by simp [World.shape?, hb]) (Lib.frozen_of_heap hb 0)).mono ?_
    rintro en w' ⟨rfl, rfl⟩
    refine ⟨rfl, by simp [World.setCell, Array.getElem?_modify, hb], by simp [World.setCell], ⟨rfl, rfl, rfl⟩, fun k hk => Below.heap_setCell _ _ _ _ (fun e => hk e)⟩
  · refine (Any.Builder_copyCheck_used L X b w c0).mono ?_
    rintro en w' ⟨rfl, rfl⟩
    exact ⟨rfl, hb, rfl, ⟨rfl, rfl, rfl⟩, fun _ _ => rfl⟩

theorem own_keep {w1 : World} {n : Nat} {xs : List Value} (hown : w.ownsRowF B e 1 v n xs) (hne : v.ownBlock ≠ some b) (h : ∀ k, k ≠ b → w1.heap[k]? = w.heap[k]?) : w1.ownsRowF B e 1 v n xs := by
  refine ⟨hown.1, ?_⟩
  rcases hown.2 with h0 | ⟨g, cap, cur, fz, rfl, hB, hg, hrest⟩
  · exact .inl h0
  · exact .inr ⟨g, cap, cur, fz, rfl, hB, by rw [h g (fun e => hne (by rw [e]; rfl))]; exact hg, hrest⟩

/-- A new buffer laid into the builder. -/
theorem bd_done {w1 w2 : World} {v' : Value} {l' : List UInt8} (h : BdAt T e B b v l w) (hTe : T ≠ e) (hb1 : w1.heap[b]? = some (.cells #[.pointer (some ⟨b, 0, none⟩), v] T (0, 0))) (hs1 : w1.heap.size = w.heap.size)
    (ho1 : w1.os = w.os ∧ w1.tape = w.tape ∧ w1.output = w.output) (hk1 : ∀ k, k ≠ b → w1.heap[k]? = w.heap[k]?) (hown' : w2.ownsRowF B e 1 v' l'.length (Lib.byteCells l')) (hos : w2.os = w1.os ∧ w2.tape = w1.tape ∧ w2.output = w1.output)
    (hsz : w1.heap.size ≤ w2.heap.size) (hblk : ∀ k, k < w1.heap.size → some k ≠ v.ownBlock → w2.heap[k]? = w1.heap[k]?) (hwh : sameOrNew v v' w.heap.size) (hnil : l' = [] → v' = .slice none 0 0) :
    BdPost T e B b v w (w2.setCell ⟨b, 1, none⟩ v') l' := by
  have hlt : b < w1.heap.size := (Array.getElem?_eq_some_iff.1 hb1).1
  have hb2 : w2.heap[b]? = some (.cells #[.pointer (some ⟨b, 0, none⟩), v] T (0, 0)) := by
    rw [hblk b hlt (fun e => h.ne e.symm)]; exact hb1
  have hne' : v'.ownBlock ≠ some b := by
    rcases hwh with hc | ⟨g, hc, hg⟩
    · rw [hc]; exact h.ne
    · rw [hc]
      intro he
      simp only [Option.some.injEq] at he
      omega
  refine ⟨v', ⟨h.le, ⟨_, by simp [World.setCell, Array.getElem?_modify, hb2], .inr rfl⟩, own_keep hown' hne' (fun k hk => Below.heap_setCell _ _ _ _ (fun e => hk e)), hne', hnil⟩, hwh, ?_⟩
  refine ⟨hos.1.trans ho1.1, hos.2.1.trans ho1.2.1, hos.2.2.trans ho1.2.2, by simp [World.setCell]; omega, fun k hk hkb hkg => ?_⟩
  rw [Below.heap_setCell _ _ _ _ (fun e => hkb e), hblk k (by omega) hkg, hk1 k hkb]

set_option maxHeartbeats 2000000 in
set_option maxRecDepth 100000 in
theorem bWriteString (L : Lays.n166 P ρ) (X : Builder.Extra P ρ) (s : List UInt8) (h : BdAt (ρ.t 72) (ρ.t 5) B b v l w) (hlen : l.length + s.length ≤ 140737488355328) (hBw : B ≤ w.heap.size) :
    Calls P (ρ.f 166) #[.pointer (some ⟨b, 0, none⟩), .string ⟨s.toArray⟩] w fun en w' => en = .returned (.tuple #[.int .i64 s.length, .nilIface]) ∧ BdPost (ρ.t 72) (ρ.t 5) B b v w w' (l ++ s) := by
  obtain ⟨i0, hi, hz0, hz1, hz2⟩ := info_parts X.infoByte
  have mixed := L.mixed
  have t72 := L.t72; have a72 := L.a72; have z72 := L.z72; have v72 := L.v72; have u72 := run_underlying L.t72
  have t70 := L.t70; have a70 := L.a70; have z70 := L.z70; have v70 := L.v70; have u70 := run_underlying L.t70
  have t37 := L.t37; have a37 := L.a37; have z37 := L.z37; have v37 := L.v37; have u37 := run_underlying L.t37
  have t3 := L.t3; have a3 := L.a3; have z3 := L.z3; have v3 := L.v3; have u3 := run_underlying L.t3
  have t9 := L.t9; have a9 := L.a9; have z9 := L.z9; have v9 := L.v9; have u9 := run_underlying L.t9
  have t4 := L.t4; have a4 := L.a4; have z4 := L.z4; have v4 := L.v4; have u4 := run_underlying L.t4
  have t5 := X.t5; have a5 := X.a5; have z5 := X.z5; have v5 := X.v5; have u5 := run_underlying X.t5
  have e240 : ∀ args w, (callFunc (ρ.f 240) args).run P w = .ok (.enter (ρ.f 240) args) w := enters_of L.f240 (by kernel_rfl) rfl
  have hsl : (⟨s.toArray⟩ : ByteArray).size = s.length := by simp [ByteArray.size]
  go_enter L.f166, Body.n166_ntmps ρ
  go_wp2_with (go_at_fn (ρ.f 240); refine (bcopyCheck { L with } X.toX72 h).mono ?_)
  rintro en w1 ⟨rfl, hb1, hs1, ho1, hk1⟩
  have hown1 := own_keep (w1 := w1) h.own h.ne hk1
  have c0 : w1.cell? ⟨b, 0, none⟩ = some (.pointer (some ⟨b, 0, none⟩)) := by rw [Lib.cell_of_heap hb1]; rfl
  have c1 : w1.cell? ⟨b, 1, none⟩ = some v := by rw [Lib.cell_of_heap hb1]; rfl
  go_wp2_with (at_builtin; refine wpList_bapp_str rfl _ _ (ρ.t 37) (ρ.t 9) rfl B (ρ.t 5) i0 L.t37 L.t9 hi hz0 hz1 hz2 v l rfl hown1 h.nil s rfl hlen (by omega) ?_)
  intro v' w2 hown' hgrow hwh hnl
  have hwh : sameOrNew v v' w.heap.size := by first | exact hwh | (rw [hs1] at hwh; exact hwh)
  have hlt : b < w1.heap.size := (Array.getElem?_eq_some_iff.1 hb1).1
  have hb2 : w2.heap[b]? = some (.cells #[.pointer (some ⟨b, 0, none⟩), v] (ρ.t 72) (0, 0)) := by
    rw [hgrow.block b hlt (fun e => h.ne e.symm)]; exact hb1
  have d0 : w2.cell? ⟨b, 0, none⟩ = some (.pointer (some ⟨b, 0, none⟩)) := by rw [Lib.cell_of_heap hb2]; rfl
  have d1 : w2.cell? ⟨b, 1, none⟩ = some v := by rw [Lib.cell_of_heap hb2]; rfl
  have f1 : w2.frozen? ⟨b, 1, none⟩ = false := Lib.frozen_of_heap hb2 1
  obtain ⟨ao, n', cap, rfl⟩ : ∃ ao n' cap, v' = .slice ao n' cap := by
    rcases hown'.2 with ⟨hv, _⟩ | ⟨g, cap, cur, fz, hv, _⟩
    · exact ⟨_, _, _, hv⟩
    · exact ⟨_, _, _, hv⟩
  go_wp2
  go_ret2
  refine ⟨by first | rfl | simp [hsl], bd_done h X.neB5 hb1 hs1 ho1 hk1 (by simpa using hown') ⟨hgrow.os, hgrow.tape, hgrow.output⟩ hgrow.size (fun k hk hn => hgrow.block k hk hn) hwh (fun e => by first | exact hnl e | (simp at e; exact hnl e.1 e.2))⟩

/-- What is handed back behind an append of a rune. -/
def RunePost (e : TypeId) (B : Nat) (v : Value) (l s : List UInt8) (w : World) (en : Ending) (w' : World) : Prop :=
  ∃ v', en = .returned v' ∧ w'.ownsRowF B e 1 v' (l ++ s).length (Lib.byteCells (l ++ s)) ∧ (∃ o, (w.alloc o).grownBy w' v.ownBlock) ∧ sameOrNew v v' w.heap.size

/-- The bytes that a rune goes in as. -/
structure RuneRow (r : Int) (s : List UInt8) : Prop where
  low : 0 ≤ r
  top : r ≤ 65535
  sur : r < 55296 ∨ 57343 < r
  row : Lib.byteCells s = Lib.runeCells r

set_option maxHeartbeats 4000000 in
set_option maxRecDepth 100000 in
theorem bApp2 (L : Lays.n278 P ρ) (X : Builder.Extra P ρ) (s : List UInt8) (r : Int) (h0 : 128 ≤ r) (h1 : r ≤ 2047) (hs : Lib.byteCells s = [.int .u8 (192 + r / 64), .int .u8 (128 + r % 64)]) (hown : w.ownsRowF B (ρ.t 5) 1 v l.length (Lib.byteCells l)) (hlen : l.length + 4 ≤ 140737488355328) (hBw : B ≤ w.heap.size) :
    Calls P (ρ.f 278) #[v, .int .i32 r] w (RunePost (ρ.t 5) B v l s w) := by
  have hsl : s.length = 2 := by rw [← Lib.byteCells_length s, hs]; rfl
  obtain ⟨i0, hi, hz0, hz1, hz2⟩ := info_parts X.infoByte
  have mixed := L.mixed
  have t4 := L.t4; have a4 := L.a4; have z4 := L.z4; have v4 := L.v4; have u4 := run_underlying L.t4
  have t5 := L.t5; have a5 := L.a5; have z5 := L.z5; have v5 := L.v5; have u5 := run_underlying L.t5
  have t21 := L.t21; have a21 := L.a21; have z21 := L.z21; have v21 := L.v21; have u21 := run_underlying L.t21
  have t37 := L.t37; have a37 := L.a37; have z37 := L.z37; have v37 := L.v37; have u37 := run_underlying L.t37
  have t46 := L.t46; have a46 := L.a46; have z46 := L.z46; have v46 := L.v46; have u46 := run_underlying L.t46
  have t51 := L.t51; have a51 := L.a51; have z51 := L.z51; have v51 := L.v51; have u51 := run_underlying L.t51
  go_enter L.f278, Body.n278_ntmps ρ
  go_wp2_with (at_builtin; refine wpList_bapp_row rfl _ _ (ρ.t 37) rfl B (ρ.t 5) i0 L.t37 hi hz0 hz1 hz2 v l rfl (hown.alloc _) s ⟨w.heap.size, 0, none⟩ 2 (by rw [hsl]; rfl) (by omega) ?c1 (by intro h; subst h; simp at hsl) (by omega) (by simp; omega) ?_)
  case c1 =>
    rw [hs]
    intro j u hj
    match j, hj with
    | 0, hj => simp at hj; subst hj; simp [Addr.add]
    | 1, hj => simp at hj; subst hj; simp [Addr.add]
    | (j + 2), hj => simp at hj
  intro v' w2 hown' hgrow hwh
  go_wp2
  go_ret
  exact ⟨v', rfl, by rw [List.length_append, hsl]; exact hown', ⟨_, hgrow⟩, hwh.imp id fun ⟨g, h1, h2⟩ => ⟨g, h1, by first | omega | (simp at h2; omega)⟩⟩

set_option maxHeartbeats 4000000 in
set_option maxRecDepth 100000 in
theorem bApp3 (L : Lays.n278 P ρ) (X : Builder.Extra P ρ) (s : List UInt8) (r : Int) (h0 : 2048 ≤ r) (h1 : r < 55296) (hs : Lib.byteCells s = [.int .u8 (224 + r / 4096), .int .u8 (128 + r / 64 % 64), .int .u8 (128 + r % 64)]) (hown : w.ownsRowF B (ρ.t 5) 1 v l.length (Lib.byteCells l)) (hlen : l.length + 4 ≤ 140737488355328) (hBw : B ≤ w.heap.size) :
    Calls P (ρ.f 278) #[v, .int .i32 r] w (RunePost (ρ.t 5) B v l s w) := by
  have hsl : s.length = 3 := by rw [← Lib.byteCells_length s, hs]; rfl
  obtain ⟨i0, hi, hz0, hz1, hz2⟩ := info_parts X.infoByte
  have mixed := L.mixed
  have t4 := L.t4; have a4 := L.a4; have z4 := L.z4; have v4 := L.v4; have u4 := run_underlying L.t4
  have t5 := L.t5; have a5 := L.a5; have z5 := L.z5; have v5 := L.v5; have u5 := run_underlying L.t5
  have t21 := L.t21; have a21 := L.a21; have z21 := L.z21; have v21 := L.v21; have u21 := run_underlying L.t21
  have t37 := L.t37; have a37 := L.a37; have z37 := L.z37; have v37 := L.v37; have u37 := run_underlying L.t37
  have t46 := L.t46; have a46 := L.a46; have z46 := L.z46; have v46 := L.v46; have u46 := run_underlying L.t46
  have t51 := L.t51; have a51 := L.a51; have z51 := L.z51; have v51 := L.v51; have u51 := run_underlying L.t51
  go_enter L.f278, Body.n278_ntmps ρ
  go_wp2_with (at_builtin; refine wpList_bapp_row rfl _ _ (ρ.t 37) rfl B (ρ.t 5) i0 L.t37 hi hz0 hz1 hz2 v l rfl (hown.alloc _) s ⟨w.heap.size, 0, none⟩ 3 (by rw [hsl]; rfl) (by omega) ?c1 (by intro h; subst h; simp at hsl) (by omega) (by simp; omega) ?_)
  case c1 =>
    rw [hs]
    intro j u hj
    match j, hj with
    | 0, hj => simp at hj; subst hj; simp [Addr.add]
    | 1, hj => simp at hj; subst hj; simp [Addr.add]
    | 2, hj => simp at hj; subst hj; simp [Addr.add]
    | (j + 3), hj => simp at hj
  intro v' w2 hown' hgrow hwh
  go_wp2
  go_ret
  exact ⟨v', rfl, by rw [List.length_append, hsl]; exact hown', ⟨_, hgrow⟩, hwh.imp id fun ⟨g, h1, h2⟩ => ⟨g, h1, by first | omega | (simp at h2; omega)⟩⟩

set_option maxHeartbeats 4000000 in
set_option maxRecDepth 100000 in
theorem bApp4 (L : Lays.n278 P ρ) (X : Builder.Extra P ρ) (s : List UInt8) (r : Int) (h0 : 57343 < r) (h1 : r ≤ 65535) (hs : Lib.byteCells s = [.int .u8 (224 + r / 4096), .int .u8 (128 + r / 64 % 64), .int .u8 (128 + r % 64)]) (hown : w.ownsRowF B (ρ.t 5) 1 v l.length (Lib.byteCells l)) (hlen : l.length + 4 ≤ 140737488355328) (hBw : B ≤ w.heap.size) :
    Calls P (ρ.f 278) #[v, .int .i32 r] w (RunePost (ρ.t 5) B v l s w) := by
  have hsl : s.length = 3 := by rw [← Lib.byteCells_length s, hs]; rfl
  obtain ⟨i0, hi, hz0, hz1, hz2⟩ := info_parts X.infoByte
  have mixed := L.mixed
  have t4 := L.t4; have a4 := L.a4; have z4 := L.z4; have v4 := L.v4; have u4 := run_underlying L.t4
  have t5 := L.t5; have a5 := L.a5; have z5 := L.z5; have v5 := L.v5; have u5 := run_underlying L.t5
  have t21 := L.t21; have a21 := L.a21; have z21 := L.z21; have v21 := L.v21; have u21 := run_underlying L.t21
  have t37 := L.t37; have a37 := L.a37; have z37 := L.z37; have v37 := L.v37; have u37 := run_underlying L.t37
  have t46 := L.t46; have a46 := L.a46; have z46 := L.z46; have v46 := L.v46; have u46 := run_underlying L.t46
  have t51 := L.t51; have a51 := L.a51; have z51 := L.z51; have v51 := L.v51; have u51 := run_underlying L.t51
  go_enter L.f278, Body.n278_ntmps ρ
  go_wp2_with (at_builtin; refine wpList_bapp_row rfl _ _ (ρ.t 37) rfl B (ρ.t 5) i0 L.t37 hi hz0 hz1 hz2 v l rfl (hown.alloc _) s ⟨w.heap.size, 0, none⟩ 3 (by rw [hsl]; rfl) (by omega) ?c1 (by intro h; subst h; simp at hsl) (by omega) (by simp; omega) ?_)
  case c1 =>
    rw [hs]
    intro j u hj
    match j, hj with
    | 0, hj => simp at hj; subst hj; simp [Addr.add]
    | 1, hj => simp at hj; subst hj; simp [Addr.add]
    | 2, hj => simp at hj; subst hj; simp [Addr.add]
    | (j + 3), hj => simp at hj
  intro v' w2 hown' hgrow hwh
  go_wp2
  go_ret
  exact ⟨v', rfl, by rw [List.length_append, hsl]; exact hown', ⟨_, hgrow⟩, hwh.imp id fun ⟨g, h1, h2⟩ => ⟨g, h1, by first | omega | (simp at h2; omega)⟩⟩

set_option maxHeartbeats 4000000 in
set_option maxRecDepth 100000 in
theorem bApp1 (L : Lays.n242 P ρ) (X : Builder.Extra P ρ) (s : List UInt8) (r : Int) (h0 : 0 ≤ r) (h1 : r ≤ 127) (hs : Lib.byteCells s = [.int .u8 r]) (hown : w.ownsRowF B (ρ.t 5) 1 v l.length (Lib.byteCells l)) (hlen : l.length + 4 ≤ 140737488355328) (hBw : B ≤ w.heap.size) :
    Calls P (ρ.f 242) #[v, .int .i32 r] w (RunePost (ρ.t 5) B v l s w) := by
  have hsl : s.length = 1 := by rw [← Lib.byteCells_length s, hs]; rfl
  obtain ⟨i0, hi, hz0, hz1, hz2⟩ := info_parts X.infoByte
  have mixed := L.mixed
  have t4 := L.t4; have a4 := L.a4; have z4 := L.z4; have v4 := L.v4; have u4 := run_underlying L.t4
  have t5 := L.t5; have a5 := L.a5; have z5 := L.z5; have v5 := L.v5; have u5 := run_underlying L.t5
  have t21 := L.t21; have a21 := L.a21; have z21 := L.z21; have v21 := L.v21; have u21 := run_underlying L.t21
  have t37 := L.t37; have a37 := L.a37; have z37 := L.z37; have v37 := L.v37; have u37 := run_underlying L.t37
  have t46 := L.t46; have a46 := L.a46; have z46 := L.z46; have v46 := L.v46; have u46 := run_underlying L.t46
  have t51 := L.t51; have a51 := L.a51; have z51 := L.z51; have v51 := L.v51; have u51 := run_underlying L.t51
  go_enter L.f242, Body.n242_ntmps ρ
  go_wp2_with (at_builtin; refine wpList_bapp_row rfl _ _ (ρ.t 37) rfl B (ρ.t 5) i0 L.t37 hi hz0 hz1 hz2 v l rfl (hown.alloc _) s ⟨w.heap.size, 0, none⟩ 1 (by rw [hsl]; rfl) (by omega) ?c1 (by intro h; subst h; simp at hsl) (by omega) (by simp; omega) ?_)
  case c1 =>
    rw [hs]
    intro j u hj
    match j, hj with
    | 0, hj => simp at hj; subst hj; simp [Addr.add]
    | (j + 1), hj => simp at hj
  intro v' w2 hown' hgrow hwh
  go_wp2
  go_ret
  exact ⟨v', rfl, by rw [List.length_append, hsl]; exact hown', ⟨_, hgrow⟩, hwh.imp id fun ⟨g, h1, h2⟩ => ⟨g, h1, by first | omega | (simp at h2; omega)⟩⟩

set_option maxHeartbeats 4000000 in
set_option maxRecDepth 100000 in
theorem bAppendRune (L : Lays.n242 P ρ) (X : Builder.Extra P ρ) {s : List UInt8} {r : Int} (hr : RuneRow r s) (hown : w.ownsRowF B (ρ.t 5) 1 v l.length (Lib.byteCells l)) (hlen : l.length + 4 ≤ 140737488355328) (hBw : B ≤ w.heap.size) :
    Calls P (ρ.f 242) #[v, .int .i32 r] w (RunePost (ρ.t 5) B v l s w) := by
  obtain ⟨k0, k1, k2, k3⟩ := hr
  by_cases c : r ≤ 127
  · exact bApp1 L X s r k0 c (by rw [k3]; simp [Lib.runeCells, Lib.encodeRuneZ_one k0 c]) hown hlen hBw
  have mixed := L.mixed
  have t4 := L.t4; have a4 := L.a4; have z4 := L.z4; have v4 := L.v4; have u4 := run_underlying L.t4
  have t5 := L.t5; have a5 := L.a5; have z5 := L.z5; have v5 := L.v5; have u5 := run_underlying L.t5
  have t21 := L.t21; have a21 := L.a21; have z21 := L.z21; have v21 := L.v21; have u21 := run_underlying L.t21
  have t37 := L.t37; have a37 := L.a37; have z37 := L.z37; have v37 := L.v37; have u37 := run_underlying L.t37
  have t46 := L.t46; have a46 := L.a46; have z46 := L.z46; have v46 := L.v46; have u46 := run_underlying L.t46
  have t51 := L.t51; have a51 := L.a51; have z51 := L.z51; have v51 := L.v51; have u51 := run_underlying L.t51
  have e278 : ∀ args w, (callFunc (ρ.f 278) args).run P w = .ok (.enter (ρ.f 278) args) w := enters_of L.f278 (by kernel_rfl) rfl
  have h128 : 128 ≤ r := by omega
  have hin : ∀ w1 : World, w1.ownsRowF B (ρ.t 5) 1 v l.length (Lib.byteCells l) → B ≤ w1.heap.size → Calls P (ρ.f 278) #[v, .int .i32 r] w1 (RunePost (ρ.t 5) B v l s w1) := by
    intro w1 ho hb
    by_cases c2 : r ≤ 2047
    · exact bApp2 { L with } X s r h128 c2 (by rw [k3]; simp [Lib.runeCells, Lib.encodeRuneZ_two h128 c2]) ho hlen hb
    · have hz := Lib.encodeRuneZ_three (r := r) (by omega)
      rcases k2 with k2 | k2
      · exact bApp3 { L with } X s r (by omega) k2 (by rw [k3]; simp [Lib.runeCells, hz]) ho hlen hb
      · exact bApp4 { L with } X s r k2 k1 (by rw [k3]; simp [Lib.runeCells, hz]) ho hlen hb
  go_enter L.f242, Body.n242_ntmps ρ
  go_wp2_with (go_at_fn (ρ.f 278); refine (hin _ hown hBw).mono ?_)
  rintro en w1 hx
  obtain ⟨v', rfl, h1, h2, h3⟩ := hx
  go_wp2
  go_ret
  exact ⟨_, rfl, h1, h2, h3⟩

set_option maxHeartbeats 4000000 in
set_option maxRecDepth 100000 in
theorem bWriteRune (L : Lays.n168 P ρ) (X : Builder.Extra P ρ) {s : List UInt8} {r : Int} (hr : RuneRow r s) (h : BdAt (ρ.t 72) (ρ.t 5) B b v l w) (hlen : l.length + 4 ≤ 140737488355328) (hBw : B ≤ w.heap.size) :
    Calls P (ρ.f 168) #[.pointer (some ⟨b, 0, none⟩), .int .i32 r] w fun en w' => en = .returned (.tuple #[.int .i64 s.length, .nilIface]) ∧ BdPost (ρ.t 72) (ρ.t 5) B b v w w' (l ++ s) := by
  have mixed := L.mixed
  have t0 := L.t0; have a0 := L.a0; have z0 := L.z0; have v0 := L.v0; have u0 := run_underlying L.t0
  have t3 := L.t3; have a3 := L.a3; have z3 := L.z3; have v3 := L.v3; have u3 := run_underlying L.t3
  have t4 := L.t4; have a4 := L.a4; have z4 := L.z4; have v4 := L.v4; have u4 := run_underlying L.t4
  have t5 := L.t5; have a5 := L.a5; have z5 := L.z5; have v5 := L.v5; have u5 := run_underlying L.t5
  have t9 := L.t9; have a9 := L.a9; have z9 := L.z9; have v9 := L.v9; have u9 := run_underlying L.t9
  have t20 := L.t20; have a20 := L.a20; have z20 := L.z20; have v20 := L.v20; have u20 := run_underlying L.t20
  have t21 := L.t21; have a21 := L.a21; have z21 := L.z21; have v21 := L.v21; have u21 := run_underlying L.t21
  have t37 := L.t37; have a37 := L.a37; have z37 := L.z37; have v37 := L.v37; have u37 := run_underlying L.t37
  have t46 := L.t46; have a46 := L.a46; have z46 := L.z46; have v46 := L.v46; have u46 := run_underlying L.t46
  have t51 := L.t51; have a51 := L.a51; have z51 := L.z51; have v51 := L.v51; have u51 := run_underlying L.t51
  have t70 := L.t70; have a70 := L.a70; have z70 := L.z70; have v70 := L.v70; have u70 := run_underlying L.t70
  have t72 := L.t72; have a72 := L.a72; have z72 := L.z72; have v72 := L.v72; have u72 := run_underlying L.t72
  have t75 := L.t75; have a75 := L.a75; have z75 := L.z75; have v75 := L.v75; have u75 := run_underlying L.t75
  have t164 := L.t164; have a164 := L.a164; have z164 := L.z164; have v164 := L.v164; have u164 := run_underlying L.t164
  have e240 : ∀ args w, (callFunc (ρ.f 240) args).run P w = .ok (.enter (ρ.f 240) args) w := enters_of L.f240 (by kernel_rfl) rfl
  have e242 : ∀ args w, (callFunc (ρ.f 242) args).run P w = .ok (.enter (ρ.f 242) args) w := enters_of L.f242 (by kernel_rfl) rfl
  have hs4 : 1 ≤ s.length ∧ s.length ≤ 4 := by
    have := Lib.runeCells_le r
    rwa [← hr.row, Lib.byteCells_length] at this
  go_enter L.f168, Body.n168_ntmps ρ
  go_wp2_with (go_at_fn (ρ.f 240); refine (bcopyCheck { L with } X.toX72 h).mono ?_)
  rintro en w1 ⟨rfl, hb1, hs1, ho1, hk1⟩
  have hown1 := own_keep (w1 := w1) h.own h.ne hk1
  obtain ⟨ao, cap, hv⟩ : ∃ ao cap, v = .slice ao l.length cap := by
    rcases h.own.2 with ⟨hv, h0⟩ | ⟨g, cap, cur, fz, hv, _⟩
    · exact ⟨none, 0, by rw [hv, h0]⟩
    · exact ⟨_, _, hv⟩
  subst hv
  have c0 : w1.cell? ⟨b, 0, none⟩ = some (.pointer (some ⟨b, 0, none⟩)) := by rw [Lib.cell_of_heap hb1]; rfl
  have c1 : w1.cell? ⟨b, 1, none⟩ = some (.slice ao l.length cap) := by rw [Lib.cell_of_heap hb1]; rfl
  go_wp2_with (go_at_fn (ρ.f 242); refine (bAppendRune { L with } X hr hown1 hlen (by omega)).mono ?_)
  rintro en w2 hx
  obtain ⟨v', rfl, hown', ⟨o, hgrow⟩, hwh⟩ := hx
  have hwh : sameOrNew (.slice ao l.length cap) v' w.heap.size := by first | exact hwh | (rw [hs1] at hwh; exact hwh)
  have hlt : b < w1.heap.size := (Array.getElem?_eq_some_iff.1 hb1).1
  have hblk : ∀ k, k < w1.heap.size → some k ≠ (Value.slice ao l.length cap).ownBlock → w2.heap[k]? = w1.heap[k]? := fun k hk hn => by
    rw [hgrow.block k (by simp; omega) hn]
    exact Lib.alloc_old w1 _ k hk
  have hb2 : w2.heap[b]? = some (.cells #[.pointer (some ⟨b, 0, none⟩), .slice ao l.length cap] (ρ.t 72) (0, 0)) := by
    rw [hblk b hlt (fun e => h.ne e.symm)]; exact hb1
  have d0 : w2.cell? ⟨b, 0, none⟩ = some (.pointer (some ⟨b, 0, none⟩)) := by rw [Lib.cell_of_heap hb2]; rfl
  have d1 : w2.cell? ⟨b, 1, none⟩ = some (.slice ao l.length cap) := by rw [Lib.cell_of_heap hb2]; rfl
  have f1 : w2.frozen? ⟨b, 1, none⟩ = false := Lib.frozen_of_heap hb2 1
  obtain ⟨g, cap', rfl⟩ : ∃ g cap', v' = .slice (some ⟨g, 0, none⟩) (l.length + s.length) cap' := by
    rcases hown'.2 with ⟨_, h0⟩ | ⟨g, cap', cur, fz, hv, _⟩
    · rw [List.length_append] at h0; omega
    · exact ⟨g, cap', by simpa using hv⟩
  go_wp2
  go_ret2
  have hsz2 := hgrow.size
  simp only [World.size_alloc] at hsz2
  refine ⟨?_, bd_done h X.neB5 hb1 hs1 ho1 hk1 hown' ⟨hgrow.os, hgrow.tape, hgrow.output⟩ (by omega) hblk hwh (fun hn => by simp at hn; have := hs4.1; rw [hn.2] at this; simp at this)⟩
  have e : ((l.length : Int) + (s.length : Int) - (l.length : Int)) = (s.length : Int) := by omega
  simp [e]

set_option maxHeartbeats 4000000 in
set_option maxRecDepth 100000 in
theorem bString (L : Lays.n169 P ρ) (X : Builder.Extra P ρ) (h : BdAt (ρ.t 72) (ρ.t 5) B b v l w) :
    Calls P (ρ.f 169) #[.pointer (some ⟨b, 0, none⟩)] w fun en w' => en = .returned (.string ⟨l.toArray⟩) ∧ BdPost (ρ.t 72) (ρ.t 5) B b v w w' l := by
  obtain ⟨p, hb, hp⟩ := h.head
  have mixed := L.mixed
  have t3 := L.t3; have a3 := L.a3; have z3 := L.z3; have v3 := L.v3; have u3 := run_underlying L.t3
  have t9 := L.t9; have a9 := L.a9; have z9 := L.z9; have v9 := L.v9; have u9 := run_underlying L.t9
  have t37 := L.t37; have a37 := L.a37; have z37 := L.z37; have v37 := L.v37; have u37 := run_underlying L.t37
  have t70 := L.t70; have a70 := L.a70; have z70 := L.z70; have v70 := L.v70; have u70 := run_underlying L.t70
  have t72 := L.t72; have a72 := L.a72; have z72 := L.z72; have v72 := L.v72; have u72 := run_underlying L.t72
  have t127 := L.t127; have a127 := L.a127; have z127 := L.z127; have v127 := L.v127; have u127 := run_underlying L.t127
  by_cases hl : l = []
  · subst hl
    obtain rfl := h.nil rfl
    have hUS := Any.unsafeString_none L X
    have c1 : w.drew.cell? ⟨b, 1, none⟩ = some (.slice none 0 0) := by
      have : w.drew.heap[b]? = some (.cells #[p, .slice none 0 0] (ρ.t 72) (0, 0)) := hb
      rw [Lib.cell_of_heap this]; rfl
    have hSD : (Builtin.unsafeSliceData_ #[(ρ.t 37)] (ρ.t 127) #[.slice none 0 0]).run P w.drew = .ok (.pointer none) w.drew := rfl
    have fin : BdPost (ρ.t 72) (ρ.t 5) B b (.slice none 0 0) w w.drew [] := ⟨_, ⟨h.le, ⟨p, hb, hp⟩, h.own, h.ne, fun _ => rfl⟩, .inl rfl, ⟨rfl, rfl, rfl, Nat.le_refl _, fun _ _ _ _ => rfl⟩⟩
    go_enter L.f169, Body.n169_ntmps ρ
    go_wp2
    go_region_o
    all_goals (go_wp2; go_ret; exact ⟨rfl, fin⟩)
  · have hl0 : l.length ≠ 0 := by simpa using hl
    obtain ⟨g, cap, cur, fz, rfl, hbg, hg, hfz, hnc, hcm, hcs, htake⟩ : ∃ g cap cur fz, v = .slice (some ⟨g, 0, none⟩) l.length cap ∧ B ≤ g ∧ w.heap[g]? = some (.cells cur (ρ.t 5) fz) ∧ fz.2 ≤ l.length * 1 ∧ l.length ≤ cap ∧ cap ≤ maxLen ∧ cur.size = cap * 1 ∧ cur.toList.take (l.length * 1) = Lib.byteCells l := by
      rcases h.own.2 with ⟨_, h0⟩ | h0
      · exact absurd h0 hl0
      · exact h0
    have c1 : w.drew.cell? ⟨b, 1, none⟩ = some (.slice (some ⟨g, 0, none⟩) l.length cap) := by
      have : w.drew.heap[b]? = some (.cells #[p, .slice (some ⟨g, 0, none⟩) l.length cap] (ρ.t 72) (0, 0)) := hb
      rw [Lib.cell_of_heap this]; rfl
    have hSD : (Builtin.unsafeSliceData_ #[(ρ.t 37)] (ρ.t 127) #[.slice (some ⟨g, 0, none⟩) l.length cap]).run P w.drew = .ok (.pointer (some ⟨g, 0, none⟩)) w.drew := Lib.run_unsafeSliceData_row _ _ _ _ _ _ (by omega)
    have hUS : (Builtin.unsafeString_ #[(ρ.t 127), (ρ.t 3)] (ρ.t 9) #[.pointer (some ⟨g, 0, none⟩), .int .i64 l.length]).run P w.drew = .ok (.string ⟨l.toArray⟩) (w.drew.freeze ⟨g, 0, none⟩ l.length) := by
      refine Lib.run_unsafeString_row w.drew (ρ.t 127) (ρ.t 3) (ρ.t 9) (ρ.t 5) L.t127 X.cellsByte g cur.size (by have hg' : w.drew.heap[g]? = some (.cells cur (ρ.t 5) fz) := hg; simp [World.shape?, hg']) l hl (by omega) (by unfold maxLen at hcm; omega) ?_
      intro j x hx
      exact h.own.cells (g := g) rfl j (.int .u8 x.toNat) (by simp [Lib.byteCells, hx])
    have hgb : g ≠ b := fun e => h.ne (by rw [e]; rfl)
    have fin : BdPost (ρ.t 72) (ρ.t 5) B b (.slice (some ⟨g, 0, none⟩) l.length cap) w (w.drew.freeze ⟨g, 0, none⟩ l.length) l := by
      have hA : Lib.BuilderAtF (ρ.t 72) (ρ.t 5) B b p (Lib.byteCells l) w.drew := ⟨h.le, _, hb, by rw [Lib.byteCells_length]; exact h.own, h.ne⟩
      have hF := hA.froze (g := g) (cap := cap) (by rw [Lib.byteCells_length]; exact c1)
      rw [Lib.byteCells_length] at hF
      obtain ⟨hB2, v2, hb2, hown2, hne2⟩ := hF
      have hk : ∀ k, k ≠ g → (w.drew.freeze ⟨g, 0, none⟩ l.length).heap[k]? = w.heap[k]? := fun k hk => by
        unfold World.freeze
        split
        · rfl
        · simp only [Array.getElem?_modify]
          rw [if_neg (fun e => hk e.symm)]
          rfl
      have hv2 : v2 = .slice (some ⟨g, 0, none⟩) l.length cap := by
        rw [hk b (fun e => hgb e.symm), hb] at hb2
        simpa using hb2.symm
      subst hv2
      rw [Lib.byteCells_length] at hown2
      refine ⟨_, ⟨h.le, ⟨p, hb2, hp⟩, hown2, h.ne, fun e => absurd e hl⟩, .inl rfl, ?_⟩
      have hfz : ∀ W : World, (W.freeze ⟨g, 0, none⟩ l.length).os = W.os ∧ (W.freeze ⟨g, 0, none⟩ l.length).tape = W.tape ∧ (W.freeze ⟨g, 0, none⟩ l.length).output = W.output ∧ (W.freeze ⟨g, 0, none⟩ l.length).heap.size = W.heap.size := fun W => by
        unfold World.freeze
        split <;> simp
      obtain ⟨q1, q2, q3, q4⟩ := hfz w.drew
      exact ⟨q1, q2, q3, by rw [q4]; exact Nat.le_refl _, fun k _ _ hkg => hk k (fun e => hkg (by rw [e]; rfl))⟩
    go_enter L.f169, Body.n169_ntmps ρ
    go_wp2
    go_region_o
    all_goals (go_wp2; go_ret; exact ⟨rfl, fin⟩)

theorem bLen (L : Lays.n170 P ρ) (h : BdAt (ρ.t 72) (ρ.t 5) B b v l w) : Calls P (ρ.f 170) #[.pointer (some ⟨b, 0, none⟩)] w fun en w' => en = .returned (.int .i64 l.length) ∧ w' = w := by
  obtain ⟨p, hb, hp⟩ := h.head
  have hA : Lib.IsBuilderF (ρ.t 72) (ρ.t 5) B b (Lib.byteCells l) w := by
    have : Lib.BuilderAtF (ρ.t 72) (ρ.t 5) B b p (Lib.byteCells l) w := ⟨h.le, _, hb, by rw [Lib.byteCells_length]; exact h.own, h.ne⟩
    rcases hp with rfl | rfl
    · exact .inl this
    · exact .inr this
  have := Any.Builder_Len_f L B b (Lib.byteCells l) w hA
  rwa [Lib.byteCells_length] at this
end
end Go.Proofs.YtjmldlknegbimaaGreatDoor.Sx

/- strings.Builder at abstract values: a method's contract on the machine gives its contract here. Own library, part 22. -/
set_option linter.unusedVariables false
set_option linter.unusedSimpArgs false
namespace Go.Proofs.YtjmldlknegbimaaGreatDoor.Sx
open Go Go.RowKit
section
variable {P : Program} {G : Gl} {H : List HO}

theorem set_same {α : Type} {l : List α} {i : Nat} {x : α} (h : l[i]? = some x) : l.set i x = l := by
  apply List.ext_getElem?
  intro j
  rw [List.getElem?_set]
  split
  · rename_i hj
    subst hj
    rw [h]
    simp [(List.getElem?_eq_some_iff.1 h).1]
  · rfl

theorem own_some {w : World} {B : Nat} {e : TypeId} {v : Value} {n : Nat} {xs : List Value} (h : w.ownsRowF B e 1 v n xs) (hn : n ≠ 0) : ∃ g, v.ownBlock = some g ∧ B ≤ g ∧ g < w.heap.size := by
  rcases h.2 with ⟨_, h0⟩ | ⟨g, cap, cur, fz, rfl, hB, hg, _⟩
  · exact absurd h0 hn
  · exact ⟨g, rfl, hB, (Array.getElem?_eq_some_iff.1 hg).1⟩

theorem Fn.of_bd {f : FuncId} {id : Nat} {T e : TypeId} {l l' : List UInt8} {args : List DV} {avs : List Value} {r : DV} {rv : Value} (hok : fnOk P f = true) (hid : H[id]? = some (.bld T e l))
    (hdet : ∀ (K : Mem) (vs : List Value), vs.length = args.length → (∀ i, i < args.length → Rel K (args.getD i .nilp) (vs.getD i undef)) → vs = avs) (hmono : l ≠ [] → l' ≠ []) (hr : ∀ K : Mem, Rel K r rv)
    (hcalls : ∀ (w : World) (B b : Nat) (v : Value), BdAt T e B b v l w → B ≤ w.heap.size → Calls P f ((Value.pointer (some ⟨b, 0, none⟩) :: avs).toArray) w fun en w' => en = .returned rv ∧ BdPost T e B b v w w' l') :
    Fn P G f (.ptr id 0 :: args.map .d) H (.d r) (H.set id (.bld T e l')) := by
  refine ⟨hok, fun X K ι w vs hsr hG hvl hvr => ?_⟩
  obtain ⟨h1, h2, p, v, h3, h4, h5, h6⟩ := hsr.obj id _ hid
  have hlt : id < H.length := (List.getElem?_eq_some_iff.1 hid).1
  have hne : v.ownBlock ≠ some (ι id).block := by
    rcases h6 with ⟨_, _, rfl⟩ | ⟨_, _, h7, h8, _⟩
    · simp [Value.ownBlock]
    · rw [h7]
      intro hc
      exact h8 (by simpa using hc)
  have hbd : BdAt T e X.w0.heap.size (ι id).block v l w := ⟨h1, ⟨p, h3, h4⟩, h5, hne, fun hl => by
    rcases h6 with ⟨_, _, h7⟩ | ⟨h7, _⟩
    · exact h7
    · exact absurd hl h7⟩
  have hvs : vs = (Value.pointer (some ⟨(ι id).block, 0, none⟩) :: avs).toArray := by
    have h0 := hvr 0 (by simp)
    simp only [List.getD_cons_zero] at h0
    obtain ⟨l0⟩ := vs
    cases l0 with
    | nil => simp at hvl
    | cons x xs =>
      have hx : x = .pointer (some ⟨(ι id).block, 0, none⟩) := by
        have e : (#[x].toList ++ xs).toArray.getD 0 undef = x := by simp [Array.getD]
        simp only [Array.getD] at h0
        simp at h0
        cases h0; rfl
      have hxs : xs = avs := hdet K xs (by simpa using hvl) fun i hi => by
        have := hvr (i + 1) (by simpa using hi)
        have hi' : i < xs.length := by simp at hvl; omega
        simp only [List.getD_cons_succ] at this
        rw [getD_map' AV.d args i .nilp _ hi] at this
        have e2 : (⟨x :: xs⟩ : Array Value).getD (i + 1) undef = xs.getD i undef := by simp [Array.getD, List.getD_eq_getElem?_getD, hi']
        rw [e2] at this
        exact this.get
      rw [hx, hxs]
  rw [hvs]
  refine (hcalls w _ _ v hbd hsr.size).mono ?_
  rintro en w' ⟨rfl, v', hb', hwh, hnear⟩
  have hblt : (ι id).block < w.heap.size := heap_lt h3
  -- what the old buffer was
  have hold : ∀ g, v.ownBlock = some g → (ι id).len = 1 ∧ g = (ι id).tb ∧ (∀ o, K ⟨g, o, none⟩ = none) ∧ X.w0.heap.size ≤ g := fun g hg => by
    rcases h6 with ⟨_, _, rfl⟩ | ⟨hl, q1, q2, q3, q4⟩
    · simp [Value.ownBlock] at hg
    · rw [q2] at hg
      simp only [Option.some.injEq] at hg
      subst hg
      obtain ⟨g2, k1, k2, _⟩ := own_some h5 (by simpa using hl)
      rw [q2] at k1
      simp only [Option.some.injEq] at k1
      exact ⟨q1, rfl, q4, by rw [k1]; exact k2⟩
  have hag : Agree K w' := fun a x hx => by
    have hc := hsr.agree a x hx
    have hal := hsr.agree.lt hx
    have hnb : a.block ≠ (ι id).block ∧ some a.block ≠ v.ownBlock := by
      unfold World.cell? at hc
      obtain ⟨blk, off, spot⟩ := a
      simp only at hc
      refine ⟨fun hc' => ?_, fun hc' => ?_⟩
      · simp only at hc'; subst hc'
        rw [h3] at hc
        cases spot with
        | none => rw [h2] at hx; contradiction
        | some s => simp at hc
      · simp only at hc'
        obtain ⟨_, _, q, _⟩ := hold blk hc'.symm
        cases spot with
        | none => rw [q] at hx; contradiction
        | some s =>
          rcases h5.2 with ⟨rfl, _⟩ | ⟨g, cap, cur, fz, rfl, _, hg, _⟩
          · simp [Value.ownBlock] at hc'
          · simp only [Value.ownBlock, Option.some.injEq] at hc'
            subst hc'
            rw [hg] at hc
            simp at hc
    have he := hnear.block a.block hal hnb.1 hnb.2
    unfold World.cell? at hc ⊢
    rw [he]; exact hc
  have hown : ∀ i q b, i ≠ id → H[i]? = some q → owns q (ι i) b → b < w.heap.size ∧ b ≠ (ι id).block ∧ some b ≠ v.ownBlock := fun i q b hi hq hb => by
    refine ⟨(owns_lt (hsr.obj i q hq) hb).1, fun hc => hi (hsr.sep i id q _ b hq hid hb (.inl hc)), fun hc => ?_⟩
    obtain ⟨q1, q2, _⟩ := hold b hc.symm
    exact hi (hsr.sep i id q _ b hq hid hb (.inr ⟨q1, q2⟩))
  have hbe : Below X.w0.heap.size X.w0 w' := hsr.below.trans ⟨hnear.os, hnear.tape, hnear.output, hnear.size, fun k hk => by
    refine hnear.block k (Nat.lt_of_lt_of_le hk hsr.size) (by omega) fun hc => ?_
    obtain ⟨_, _, _, q⟩ := hold k hc.symm
    omega⟩
  -- the new place
  have key : ∀ p' : Pl, p'.block = (ι id).block → (ι id).len ≤ p'.len → (p'.len = (ι id).len → p'.cur = (ι id).cur) → objOk K (place ι id p') H.length w' X.w0.heap.size p' (.bld T e l') →
      (∀ b, owns (.bld T e l') p' b → b = (ι id).block ∨ (some b = v.ownBlock) ∨ w.heap.size ≤ b) → Left X K ι H.length (H.set id (.bld T e l')) (.d r) rv w' := fun p' g1 g2 g3 g4 g5 => by
    obtain ⟨s1, s2⟩ := hsr.set hid p' (.bld T e l') (Mem.le_refl K) hag hbe hsr.kold ⟨g1, g2, g3⟩
      (fun i q hi hq => (hsr.obj i q hq).frame fun b hb => by
        obtain ⟨k1, k2, k3⟩ := hown i q b hi hq hb
        exact hnear.block b k1 k2 k3) g4 (fun b hb i q hi hq hc => by
        obtain ⟨k1, k2, k3⟩ := hown i q b hi hq hc
        rcases g5 b hb with h | h | h
        · exact k2 h
        · exact k3 h
        · omega)
    exact ⟨K, _, s1, .d _ _ (hr K), Mem.le_refl K, s2, by simp⟩
  obtain ⟨p2, hb2, hp2⟩ := hb'.head
  refine ⟨rv, rfl, ?_⟩
  by_cases hl' : l' = []
  · have hl : l = [] := Classical.byContradiction fun hc => hmono hc hl'
    have hlen0 : (ι id).len = 0 := by
      rcases h6 with ⟨_, q, _⟩ | ⟨q, _⟩
      · exact q
      · exact absurd hl q
    refine key (ι id) rfl (Nat.le_refl _) (fun _ => rfl) ⟨h1, h2, p2, v', hb2, hp2, hb'.own, .inl ⟨hl', hlen0, hb'.nil hl'⟩⟩ ?_
    rintro b (rfl | ⟨q, _⟩)
    · exact .inl rfl
    · omega
  · obtain ⟨g, q1, q2, q3⟩ := own_some hb'.own (by simpa using hl')
    refine key { (ι id) with len := 1, tb := g } rfl ?_ (fun _ => rfl) ⟨h1, h2, p2, v', hb2, hp2, hb'.own, .inr ⟨hl', rfl, q1, fun hc => hb'.ne (by rw [q1, ← hc]), fun o => ?_⟩⟩ ?_
    · rcases h6 with ⟨_, q, _⟩ | ⟨_, q, _⟩
      · simp [q]
      · simp [q]
    · rcases hwh with hc | ⟨g2, hc, hg2⟩
      · rw [q1] at hc
        exact (hold g hc.symm).2.2.1 o
      · rw [q1] at hc
        simp only [Option.some.injEq] at hc
        subst hc
        exact none_of_ge hsr.agree hg2
    · rintro b (rfl | ⟨_, rfl⟩)
      · exact .inl rfl
      · rcases hwh with hc | ⟨g2, hc, hg2⟩
        · rw [q1] at hc; exact .inr (.inl hc)
        · rw [q1] at hc
          simp only [Option.some.injEq] at hc
          subst hc
          exact .inr (.inr hg2)

end
end Go.Proofs.YtjmldlknegbimaaGreatDoor.Sx

/- A contract's memory cut: objects behind the ones that are kept. -/
set_option linter.unusedVariables false
namespace Go.Proofs.YtjmldlknegbimaaGreatDoor.Sx
open Go Go.RowKit
variable {P : Program} {G : Gl}
theorem Fn.drop {f : FuncId} {args : List AV} {r : AV} {H H' R : List HO} (h : Fn P G f args H r (H' ++ R)) (hl : H.length ≤ H'.length) (hr : r.lt H'.length = true) (hb : ltBoxes H'.length H' = true) : Fn P G f args H r H' := by
  refine ⟨h.1, fun X K ι w vs hsr hG hvl hvr => (h.2 X K ι w vs hsr hG hvl hvr).mono ?_⟩
  rintro e w' ⟨v, he, K', ι', g1, g2, g3, g4, g5⟩
  have hw : Weak X.n0 (fun _ => .junk) (H' ++ R) (keepE [] fun _ => .junk) H' := Weak.keep rfl (Nat.le_trans hsr.n0 hl) trivial rfl hb
  have := (hw.sound (q := true) (nt := 0) (a := { tmps := #[], defers := [] }) rfl g1 ⟨rfl, fun _ => rfl, Nat.zero_le _, rfl, fun t => .junk _⟩).1
  exact ⟨v, he, K', ι', this, g2.lt hr, g3, g4, hl⟩
end Go.Proofs.YtjmldlknegbimaaGreatDoor.Sx
