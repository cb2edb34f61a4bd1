/- Steps that use the call's own memory: alloc, box, load, store, make, slice literals, append. Own library, part 8. -/
import Derived.Test.YtjmldlknegbimaaDoorA7
set_option linter.unusedVariables false
set_option linter.unusedSimpArgs false
namespace Go.Proofs.YtjmldlknegbimaaDoor.Sx
open Go Go.RowKit

def oneA : AV → Bool
  | .d (.agg _) => false
  | .d (.tup _) => false
  | .agg _ => false
  | .tup _ => false
  | .junk => false
  | _ => true

def splice (cur : Array Value) (k : Nat) (vs : List Value) : Array Value := (cur.toList.take k ++ vs ++ cur.toList.drop (k + vs.length)).toArray

section
variable {P : Program} {X : Cxt} {K K' : Mem} {ι ι' : Nat → Pl} {n : Nat} {H : List HO} {w w' : World}

theorem oneA_cell {x : AV} {v : Value} (h : oneA x = true) (hx : RelA K ι n x v) : v.oneCell' = true := by
  cases hx with
  | d x v h' => cases h' <;> first | rfl | (simp [oneA] at h)
  | tsl tok es v h' _ _ _ => cases h' <;> rfl
  | ptr => rfl
  | bsl => rfl
  | clo => rfl
  | mp => rfl
  | agg => simp [oneA] at h
  | tup => simp [oneA] at h
  | junk => simp [oneA] at h

theorem splice_size {cur : Array Value} {k : Nat} {vs : List Value} (h : k + vs.length ≤ cur.size) : (splice cur k vs).size = cur.size := by
  simp [splice]; omega

theorem splice_get {cur : Array Value} {k : Nat} {vs : List Value} (h : k + vs.length ≤ cur.size) (i : Nat) :
    (splice cur k vs).getD i undef = if k ≤ i ∧ i < k + vs.length then vs.getD (i - k) undef else cur.getD i undef := by
  simp only [splice, Array.getD_eq_getD_getElem?, List.getElem?_toArray, List.getElem?_append, List.length_append, List.length_take, List.getElem?_take, List.getElem?_drop, Array.length_toList, List.getD_eq_getElem?_getD]
  rw [show min k cur.size = k from by omega]
  by_cases c1 : i < k
  · rw [if_pos (by omega), if_pos c1, if_pos c1, if_neg (by omega)]; simp
  · by_cases c2 : i < k + vs.length
    · rw [if_pos c2, if_neg c1, if_pos (by omega)]
    · rw [if_neg c2, if_neg (by omega), show k + vs.length + (i - (k + vs.length)) = i from by omega]; simp

theorem splice_nil (cur : Array Value) (k : Nat) : splice cur k [] = cur := by
  simp [splice]

theorem setRow_frozen (w : World) (g : Nat) (cs : Array Value) (a : Addr) : (w.setRow g cs).frozen? a = w.frozen? a := by
  unfold World.frozen?
  by_cases h : a.block = g
  · subst h
    unfold World.setRow
    simp only [Array.getElem?_modify, if_true]
    cases hc : w.heap[a.block]? with
    | none => simp
    | some o => cases o <;> simp
  · rw [setRow_other w g a.block cs h]

theorem setRow_id (w : World) (g : Nat) (cur : Array Value) (t : TypeId) (fr : Nat × Nat) (hg : w.heap[g]? = some (.cells cur t fr)) : w.setRow g cur = w := by
  have hlt : g < w.heap.size := (Array.getElem?_eq_some_iff.1 hg).1
  have hv : w.heap[g] = .cells cur t fr := (Array.getElem?_eq_some_iff.1 hg).2
  unfold World.setRow
  cases w with
  | mk heap tape drawn os output =>
    congr 1
    apply Array.ext
    · simp
    · intro k h1 h2
      simp only [Array.getElem_modify]
      split
      · rename_i hk; subst hk; simp at hv; simp [hv]
      · rfl

theorem run_storeCells_any (g o : Nat) (t : TypeId) (fr : Nat × Nat) : ∀ (vs : List Value) (i : Nat) (cur : Array Value) (w : World), w.heap[g]? = some (.cells cur t fr) → o + i + vs.length ≤ cur.size →
    (∀ v ∈ vs, v.oneCell' = true) → (∀ q, o + i ≤ q → q < o + i + vs.length → w.frozen? ⟨g, q, none⟩ = false) →
    (storeCells ⟨g, o, none⟩ vs i).run P w = .ok () (w.setRow g (splice cur (o + i) vs))
  | [], i, cur, w, hg, _, _, _ => by
    rw [splice_nil, setRow_id w g cur t fr hg]
    rfl
  | v :: rest, i, cur, w, hg, hl, h1, hf => by
    have hi : o + i < cur.size := by simp at hl; omega
    have hadd : (⟨g, o, none⟩ : Addr).add i = ⟨g, o + i, none⟩ := Addr.add_mk g o i
    have hcell : w.cell? ⟨g, o + i, none⟩ = some cur[o + i] := by simp [World.cell?, hg, hi]
    have hfro : w.frozen? ⟨g, o + i, none⟩ = false := hf _ (Nat.le_refl _) (by simp)
    have hst : (store ((⟨g, o, none⟩ : Addr).add i) v).run P w = .ok () (w.setRow g (cur.setIfInBounds (o + i) v)) := by
      rw [hadd, run_store P w _ v _ (h1 v (by simp)), hcell]
      simp [hfro, setCell_eq_setRow w g (o + i) cur t fr v hg]
    have ih := run_storeCells_any g o t fr rest (i + 1) (cur.setIfInBounds (o + i) v) (w.setRow g (cur.setIfInBounds (o + i) v)) (setRow_heap w g cur _ t _ hg) (by simp at hl ⊢; omega)
      (fun x hx => h1 x (by simp [hx])) (fun q hq hq' => by rw [setRow_frozen]; exact hf q (by omega) (by simp; omega))
    simp only [storeCells, Sem.run_bind, hst, Result.andThen_ok, ih, setRow_setRow]
    congr 2
    apply Array.ext
    · rw [splice_size (by simp at hl ⊢; omega), splice_size hl]; simp
    · intro q h1 h2
      have e1 := splice_get (cur := cur.setIfInBounds (o + i) v) (k := o + (i + 1)) (vs := rest) (by simp at hl ⊢; omega) q
      have e2 := splice_get (cur := cur) (k := o + i) (vs := v :: rest) hl q
      have g1 : (splice (cur.setIfInBounds (o + i) v) (o + (i + 1)) rest).getD q undef = (splice (cur.setIfInBounds (o + i) v) (o + (i + 1)) rest)[q] := by simp [Array.getD, h1]
      have g2 : (splice cur (o + i) (v :: rest)).getD q undef = (splice cur (o + i) (v :: rest))[q] := by simp [Array.getD, h2]
      rw [← g1, ← g2, e1, e2]
      by_cases c1 : o + (i + 1) ≤ q ∧ q < o + (i + 1) + rest.length
      · rw [if_pos c1, if_pos (by simp; omega), show q - (o + i) = (q - (o + (i + 1))) + 1 from by omega]; simp
      · rw [if_neg c1]
        by_cases c2 : q = o + i
        · subst c2; rw [if_pos (by simp)]; simp [Array.getD, hi]
        · rw [if_neg (by simp; omega)]
          simp [Array.getD_eq_getD_getElem?, Array.getElem?_setIfInBounds, Ne.symm c2]

/-! Stores into a box -/
theorem objOk.setRow {B b : Nat} {pl : Pl} {q : HO} {cs : Array Value} (ho : objOk K ι n w B pl q) (hb : ¬ owns q pl b) : objOk K ι n (w.setRow b cs) B pl q := by
  cases q with
  | box ds =>
    obtain ⟨h1, vs, ty, fz, h2, h3, h4, h5, h6⟩ := ho
    have hne : pl.block ≠ b := fun e => hb e.symm
    exact ⟨h1, vs, ty, fz, by rw [setRow_other _ _ _ _ hne]; exact h2, h3, fun o => by rw [setRow_frozen]; exact h4 o, h5, h6⟩
  | tok sz m =>
    obtain ⟨h1, h2⟩ := ho
    refine ⟨h1, h2.imp id ?_⟩
    rintro ⟨a, cap, e, hle, hs⟩
    refine ⟨a, cap, e, hle, fun hlt => ?_⟩
    have hne : pl.tb ≠ b := fun e' => hb ⟨e'.symm, a, cap, e, hlt⟩
    obtain ⟨g1, g2, g3, vs, ty, fz, g4, g5, g6⟩ := hs hlt
    exact ⟨g1, g2, g3, vs, ty, fz, by rw [setRow_other _ _ _ _ hne]; exact g4, g5, fun o ho => by rw [setRow_frozen]; exact g6 o ho⟩
  | dead => trivial
  | mp es =>
    obtain ⟨h1, ents, clock, h2, h3⟩ := ho
    have hne : pl.block ≠ b := fun e => hb e.symm
    exact ⟨h1, ents, clock, by rw [setRow_other _ _ _ _ hne]; exact h2, h3⟩

theorem below_setRow {w0 : World} {b : Nat} {cs : Array Value} (h : Below w0.heap.size w0 w) (hb : w0.heap.size ≤ b) : Below w0.heap.size w0 (w.setRow b cs) :=
  h.trans ⟨rfl, rfl, rfl, by simp, fun k hk => setRow_other _ _ _ _ (by omega)⟩

theorem agree_setRow {b : Nat} {cs : Array Value} (h : Agree K w) (hb : ∀ o, K ⟨b, o, none⟩ = none) : Agree K (w.setRow b cs) := fun a v e => by
  have hne : a.block ≠ b := by
    intro hc
    obtain ⟨blk, off, spot⟩ := a
    simp only at hc; subst hc
    cases spot with
    | none => rw [hb] at e; contradiction
    | some s =>
      have := h _ _ e
      unfold World.cell? at this
      simp only [Option.isSome_some, if_true] at this
      split at this <;> contradiction
  rw [cell_setRow_other _ _ _ _ hne]; exact h a v e

theorem SR.setBox {id : Nat} {cs cs' : List AV} {vs' : Array Value} (h : SR X K ι H w) (hid : H[id]? = some (.box cs)) (hl : vs'.size = cs'.length) (hl' : cs'.length = cs.length)
    (hr : ∀ j, j < cs'.length → RelA K ι H.length (cs'.getD j .junk) (vs'.getD j undef)) :
    ∃ ι', SR X K ι' (H.set id (.box cs')) (w.setRow (ι id).block vs') ∧ Pls.le H.length ι ι' := by
  obtain ⟨h1, vs, ty, fz, h2, h3, h4, h5, h6⟩ := h.obj id _ hid
  have hsz : X.w0.heap.size ≤ (ι id).block := h1
  have := h.set (K' := K) (w' := w.setRow (ι id).block vs') hid (ι id) (.box cs') (Mem.le_refl K) (agree_setRow h.agree h6) (below_setRow h.below h1) h.kold ⟨rfl, Nat.le_refl _, fun _ => rfl⟩
    (fun i q hi hq => (h.obj i q hq).setRow (fun ho => hi (h.sep i id q (.box cs) _ hq hid ho rfl)))
    ⟨h1, vs', ty, fz, setRow_heap w _ vs vs' ty fz h2, hl, fun o => by rw [setRow_frozen]; exact h4 o, fun j hj => (hr j hj).mono (Mem.le_refl K) (Nat.le_refl _) (fun i hi => by
      by_cases hc : i = id
      · subst hc; rw [place_same]; exact ⟨rfl, Nat.le_refl _, fun _ => rfl⟩
      · rw [place_other _ _ _ _ hc]; exact ⟨rfl, Nat.le_refl _, fun _ => rfl⟩), h6⟩
    (fun b hb i q hi hq ho => hi (h.sep i id q (.box cs) b hq hid ho hb))
  exact ⟨_, this.1, this.2⟩

def stA (H : List HO) (id off : Nat) (vc : List AV) : Option (List HO) :=
  match H[id]? with
  | some (.box cs) => if off + vc.length ≤ cs.length ∧ vc.all oneA = true then some (H.set id (.box (cs.take off ++ vc ++ cs.drop (off + vc.length)))) else none
  | _ => none

theorem getD_splice {α : Type} (cs vc : List α) (off : Nat) (d : α) (h : off + vc.length ≤ cs.length) (i : Nat) :
    (cs.take off ++ vc ++ cs.drop (off + vc.length)).getD i d = if off ≤ i ∧ i < off + vc.length then vc.getD (i - off) d else cs.getD i d := by
  simp only [List.getD_eq_getElem?_getD, List.getElem?_append, List.length_append, List.length_take, List.getElem?_take, List.getElem?_drop]
  rw [show min off cs.length = off from by omega]
  by_cases c1 : i < off
  · rw [if_pos (by omega), if_pos c1, if_pos c1, if_neg (by omega)]
  · by_cases c2 : i < off + vc.length
    · rw [if_pos c2, if_neg c1, if_pos (by omega)]
    · rw [if_neg c2, if_neg (by omega), show off + vc.length + (i - (off + vc.length)) = i from by omega]

theorem stA_sound {id off : Nat} {vc : List AV} {H' : List HO} {vs : List Value} (h : stA H id off vc = some H') (hsr : SR X K ι H w) (hl : vs.length = vc.length)
    (hr : ∀ i, i < vc.length → RelA K ι H.length (vc.getD i .junk) (vs.getD i undef)) :
    ∃ w' ι', (storeCells ⟨(ι id).block, off, none⟩ vs).run P w = .ok () w' ∧ SR X K ι' H' w' ∧ Pls.le H.length ι ι' ∧ H.length = H'.length := by
  unfold stA at h
  split at h
  · rename_i cs hid
    split at h
    · rename_i hc
      obtain ⟨hc1, hc2⟩ := hc
      simp only [Option.some.injEq] at h; subst h
      obtain ⟨h1, cur, ty, fz, h2, h3, h4, h5, h6⟩ := hsr.obj id _ hid
      have hone : ∀ v ∈ vs, v.oneCell' = true := fun v hv => by
        obtain ⟨i, hi, rfl⟩ := List.getElem_of_mem hv
        have := hr i (by omega)
        simp only [List.getD_eq_getElem?_getD, hi, List.getElem?_eq_getElem, Option.getD_some] at this
        refine oneA_cell ?_ this
        rw [List.getElem?_eq_getElem (by omega)]
        exact List.all_eq_true.1 hc2 _ (List.getElem_mem _)
      have hrun := run_storeCells_any (P := P) (ι id).block off ty fz vs 0 cur w h2 (by omega) hone (fun q _ _ => h4 q)
      obtain ⟨ι', g1, g2⟩ := hsr.setBox (cs' := cs.take off ++ vc ++ cs.drop (off + vc.length)) (vs' := splice cur off vs) hid
        (by rw [splice_size (by omega)]; simp; omega) (by simp; omega) (fun j hj => by
          have hj' : j < cs.length := by simp at hj; omega
          rw [getD_splice cs vc off _ hc1 j, splice_get (by omega) j, hl]
          split
          · exact hr _ (by omega)
          · exact h5 j hj')
      exact ⟨_, ι', hrun, g1, g2, by simp⟩
    · contradiction
  · contradiction

/-! New rows that are known for good -/
def kAdd (K : Mem) (b lo hi : Nat) (vs : Array Value) : Mem := fun a =>
  if a.block = b ∧ a.spot = none ∧ lo ≤ a.off ∧ a.off < hi then some (vs.getD a.off undef) else K a

theorem Ext.row (h : Agree K w) (vs : Array Value) (ty : TypeId) (hi : Nat) (hk : hi ≤ vs.size) : Ext K w (kAdd K w.heap.size 0 hi vs) (w.alloc (.cells vs ty)) where
  le := fun a v e => by
    have := h.lt e
    unfold kAdd
    rw [if_neg (by omega)]; exact e
  old := fun a ha => by unfold kAdd; rw [if_neg (by omega)]
  agree := fun a v e => by
    unfold kAdd at e
    split at e
    · rename_i hc
      obtain ⟨c1, c2, c3, c4⟩ := hc
      simp only [Option.some.injEq] at e; subst e
      obtain ⟨blk, off, spot⟩ := a
      simp only at c1 c2 c3 c4
      subst c1; subst c2
      rw [World.cell?_alloc_new]
      simp [Array.getD, show off < vs.size from by omega]
    · exact agree_alloc h _ a v e
  below := (Below.refl _ _).alloc (Nat.le_refl _) _

theorem rel_row {es : List (List DV)} {sz b o cap : Nat} {vs : Array Value} {st : St} (hst : st ≠ .nil) (hf : st = .full → cap = es.length) (hcap : es.length ≤ cap) (hz : szOk sz es = true)
    (hK : ∀ q, o ≤ q → q < o + es.length * sz → K ⟨b, q, none⟩ = some (vs.getD q undef))
    (hr : ∀ i j, i < es.length → j < sz → Rel K ((es.getD i []).getD j .nilp) (vs.getD (o + (i * sz + j)) undef)) : Rel K (.sl st es) (.slice (some ⟨b, o, none⟩) es.length cap) := by
  refine .sl st es ⟨b, o, none⟩ cap sz (fun i j => vs.getD (o + (i * sz + j)) undef) hst hf hcap (fun i hi => szOk_get hz hi) (fun i j hi hj => ?_) hr
  rw [Addr.add_mk]
  refine hK _ (by omega) ?_
  have : (i + 1) * sz ≤ es.length * sz := Nat.mul_le_mul_right _ hi
  rw [Nat.add_mul] at this
  omega

/-- The cells that a slice's elements are. -/
theorem sl_cells {es : List (List DV)} {v : Value} {z : Nat} (h : Rel K (.sl .any es) v) (hz : szOk z es = true) :
    ∃ olds : List Value, olds.length = es.length * z ∧ (∀ w, Agree K w → (Builtin.firstCells z es.length v).run P w = .ok olds.toArray w) ∧
      (∀ i j, i < es.length → j < z → Rel K ((es.getD i []).getD j .nilp) (olds.getD (i * z + j) undef)) ∧ ∃ base cap, v = .slice base es.length cap ∧ es.length ≤ cap ∧ (base = none → es = [] ∧ cap = 0) := by
  cases h with
  | slnil => exact ⟨[], by simp, fun w _ => by simp [Builtin.firstCells], by simp, none, 0, rfl, Nat.le_refl _, fun _ => ⟨rfl, rfl⟩⟩
  | sl _ _ a cap sz val hst hf hc hzz hK hr =>
    by_cases hes : es.length = 0
    · obtain rfl : es = [] := List.length_eq_zero_iff.1 hes
      exact ⟨[], by simp, fun w _ => by simp [Builtin.firstCells, loadCells, loadCellsFrom], by simp, _, cap, rfl, Nat.zero_le _, by simp⟩
    · have h1 := hzz 0 (by omega)
      have h2 := szOk_get hz (i := 0) (by omega)
      obtain rfl : sz = z := by omega
      refine ⟨(List.range (es.length * sz)).map (fun q => val (q / sz) (q % sz)), by simp, fun w hw => ?_, fun i j hi hj => ?_, _, cap, rfl, hc, by simp⟩
      · have hlen : ((List.range (es.length * sz)).map (fun q => val (q / sz) (q % sz))).length = es.length * sz := by simp
        refine run_firstCells_some w sz es.length a es.length cap _ hlen (fun q v hq => ?_)
        simp only [List.getElem?_map, Option.map_eq_some_iff] at hq
        obtain ⟨q', hq1, rfl⟩ := hq
        have hq2 := List.getElem?_eq_some_iff.1 hq1
        obtain ⟨hq3, hq4⟩ := hq2
        simp at hq3 hq4
        subst hq4
        have hsz : 0 < sz := by
          rcases Nat.eq_zero_or_pos sz with rfl | hp
          · simp at hq3
          · exact hp
        have hlt : q / sz < es.length := Nat.div_lt_of_lt_mul (by rw [Nat.mul_comm]; exact hq3)
        have := hw _ _ (hK (q / sz) (q % sz) hlt (Nat.mod_lt _ hsz))
        rwa [Nat.mul_comm, Nat.div_add_mod] at this
      · have hlt : i * sz + j < es.length * sz := by
          have : (i + 1) * sz ≤ es.length * sz := Nat.mul_le_mul_right _ hi
          rw [Nat.add_mul] at this
          omega
        have hsz : 0 < sz := by omega
        have e1 : (i * sz + j) / sz = i := by
          rw [Nat.mul_comm, Nat.mul_add_div hsz, Nat.div_eq_of_lt hj]; rfl
        have e2 : (i * sz + j) % sz = j := by
          rw [Nat.mul_comm, Nat.mul_add_mod, Nat.mod_eq_of_lt hj]
        have : ((List.range (es.length * sz)).map (fun q => val (q / sz) (q % sz))).getD (i * sz + j) undef = val i j := by
          simp [List.getD_eq_getElem?_getD, hlt, e1, e2]
        rw [this]
        exact hr i j hi hj

theorem str_cells (s : List UInt8) (w : World) : (Builtin.firstCells 1 s.length (.string ⟨s.toArray⟩)).run P w = .ok (s.map fun b => Value.int .u8 b.toNat).toArray w := by
  simp only [Builtin.firstCells]
  have : (⟨s.toArray⟩ : ByteArray).extract 0 s.length = ⟨s.toArray⟩ := by
    apply ByteArray.ext
    simp [ByteArray.data_extract]
  rw [this]
  simp

end
end Go.Proofs.YtjmldlknegbimaaDoor.Sx
