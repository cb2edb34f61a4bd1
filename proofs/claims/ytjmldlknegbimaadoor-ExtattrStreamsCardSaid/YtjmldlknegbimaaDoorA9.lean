/- Append at a token. Own library, part 9. -/
import Derived.Test.YtjmldlknegbimaaDoorA8
set_option linter.unusedVariables false
set_option linter.unusedSimpArgs false
namespace Go.Proofs.YtjmldlknegbimaaDoor.Sx
open Go Go.RowKit

def oneD (d : DV) : Bool := oneA (.d d)
/-- All elements have so many cells, each of which can be stored. -/
def elOk (z : Nat) (es : List (List DV)) : Bool := es.all (fun c => c.length == z && c.all oneD)

section
variable {P : Program} {X : Cxt} {K K' : Mem} {ι ι' : Nat → Pl} {n : Nat} {H : List HO} {w w' : World}

theorem elOk_map {α : Type} {z : Nat} (f : α → List DV) (xs : List α) (h : ∀ x, (f x).length = z ∧ (f x).all oneD = true) : elOk z (xs.map f) = true := by
  simp only [elOk, List.all_map, List.all_eq_true, Function.comp]
  intro x _
  simp [(h x).1, (h x).2]
theorem elOk_nil (z : Nat) : elOk z [] = true := rfl
theorem elOk_cons (z : Nat) (c : List DV) (es : List (List DV)) : elOk z (c :: es) = ((c.length == z && c.all oneD) && elOk z es) := by simp [elOk]
theorem elOk_append (z : Nat) (es es' : List (List DV)) : elOk z (es ++ es') = (elOk z es && elOk z es') := by simp [elOk]
theorem elOk_take (z k : Nat) (es : List (List DV)) (h : elOk z es = true) : elOk z (es.take k) = true := by
  simp only [elOk, List.all_eq_true] at *
  exact fun c hc => h c (List.mem_of_mem_take hc)
theorem elOk_drop (z k : Nat) (es : List (List DV)) (h : elOk z es = true) : elOk z (es.drop k) = true := by
  simp only [elOk, List.all_eq_true] at *
  exact fun c hc => h c (List.mem_of_mem_drop hc)
theorem elOk_sz {z : Nat} {es : List (List DV)} (h : elOk z es = true) : szOk z es = true := by
  simp only [elOk, szOk, List.all_eq_true, Bool.and_eq_true] at *
  exact fun c hc => (h c hc).1

theorem elOk_one {z : Nat} {es : List (List DV)} (h : elOk z es = true) {i j : Nat} (hi : i < es.length) (hj : j < z) : oneD ((es.getD i []).getD j .nilp) = true := by
  have hsz := szOk_get (elOk_sz h) hi
  simp only [elOk, List.all_eq_true, Bool.and_eq_true] at h
  have := (h es[i] (List.getElem_mem hi)).2
  have e : es.getD i [] = es[i] := by simp [List.getD_eq_getElem?_getD, hi]
  rw [e] at hsz ⊢
  have hj' : j < es[i].length := by omega
  have e2 : es[i].getD j .nilp = es[i][j] := by simp [List.getD_eq_getElem?_getD, hj']
  rw [e2]
  exact this _ (List.getElem_mem hj')

/-- A slice that is nil, or full, can be handed a token. -/
theorem SR.ghostTok {st : St} {es : List (List DV)} {v : Value} (sz : Nat) (h : SR X K ι H w) (hst : st ≠ .any) (hr : Rel K (.sl st es) v) :
    ∃ p, SR X K (place ι H.length p) (H ++ [.tok sz es.length]) w ∧ RelA K (place ι H.length p) (H.length + 1) (.tsl H.length es) v ∧ Pls.le H.length ι (place ι H.length p) := by
  refine ⟨⟨0, v, es.length, 0⟩, h.push h _ _ ⟨rfl, ?_⟩ ?_, ?_, place_le _ _ _⟩
  · cases hr with
    | slnil => exact .inl ⟨rfl, rfl⟩
    | sl _ _ a cap z val hst' hf hc hz hK hrr =>
      have hfull : st = .full := by cases st <;> simp_all
      have hcap := hf hfull
      exact .inr ⟨a, cap, rfl, hc, fun hlt => by omega⟩
  · rintro b ⟨_, a, cap, hcur, hlt⟩
    cases hr with
    | slnil => simp at hcur
    | sl _ _ a' cap' z val hst' hf hc hz hK hrr =>
      have hfull : st = .full := by cases st <;> simp_all
      have hcap := hf hfull
      simp at hcur
      omega
  · refine .tsl _ _ _ hr.any (by omega) ?_ ?_
    · rw [place_same]; exact Nat.le_refl _
    · rw [place_same]; exact fun _ => rfl

theorem objOk.setRow' {B b : Nat} {pl : Pl} {q : HO} {cs : Array Value} (ho : objOk K ι n w B pl q) (hb : ¬ owns q pl b) (hle : Mem.le K K') (hk : ∀ a : Addr, a.block ≠ b → K' a = K a) :
    objOk K' ι n (w.setRow b cs) B pl q := by
  cases q with
  | box ds =>
    obtain ⟨h1, vs, ty, fz, h2, h3, h4, h5, h6⟩ := ho
    have hne : pl.block ≠ b := fun e => hb e.symm
    exact ⟨h1, vs, ty, fz, by rw [setRow_other _ _ _ _ hne]; exact h2, h3, fun o => by rw [setRow_frozen]; exact h4 o, fun j hj => (h5 j hj).mono hle (Nat.le_refl _) (Pls.le_refl _ _), fun o => by rw [hk _ hne]; exact h6 o⟩
  | tok sz m =>
    obtain ⟨h1, h2⟩ := ho
    refine ⟨h1, h2.imp id ?_⟩
    rintro ⟨a, cap, e, hle', hs⟩
    refine ⟨a, cap, e, hle', fun hlt => ?_⟩
    have hne : pl.tb ≠ b := fun e' => hb ⟨e'.symm, a, cap, e, hlt⟩
    obtain ⟨g1, g2, g3, vs, ty, fz, g4, g5, g6⟩ := hs hlt
    exact ⟨g1, g2, g3, vs, ty, fz, by rw [setRow_other _ _ _ _ hne]; exact g4, g5, fun o ho => by rw [setRow_frozen, hk _ hne]; exact g6 o ho⟩
  | dead => trivial
  | mp es =>
    obtain ⟨h1, ents, clock, h2, h3⟩ := ho
    have hne : pl.block ≠ b := fun e => hb e.symm
    exact ⟨h1, ents, clock, by rw [setRow_other _ _ _ _ hne]; exact h2, h3.mono hle⟩

/-- What is appended: its elements, and that their cells are read. -/
structure Src (P : Program) (K : Mem) (z : Nat) (new : List (List DV)) (x : Value) (w : World) (news : List Value) : Prop where
  len : (Builtin.lenOf x) = pure new.length
  nlen : news.length = new.length * z
  run : ∀ w', (∀ a v, K a = some v → w'.cell? a = some v) → (Builtin.firstCells z new.length x).run P w' = .ok news.toArray w'
  rel : ∀ i j, i < new.length → j < z → Rel K ((new.getD i []).getD j .nilp) (news.getD (i * z + j) undef)

def srcK : TK → Bool
  | .string => true
  | .slice _ => true
  | _ => false

theorem srcK_under {tX : TypeId} {kX : TK} (hX : tk P tX = some kX) (hX' : srcK kX = true) : P.underlying tX = some .string ∨ ∃ u, P.underlying tX = some (.slice u) := by
  cases kX <;> simp [srcK] at hX'
  · exact .inl (tk_string hX)
  · exact .inr ⟨_, tk_slice hX⟩

theorem run_app_room {tS tX e : TypeId} {z : Nat} {kX : TK} (hS : tk P tS = some (.slice e)) (hz : tsz P e = some z) (hX : tk P tX = some kX) (hX' : srcK kX = true)
    (ty : TypeId) (base : Option Addr) (m cap : Nat) (x : Value) {k : Nat} (hlen : Builtin.lenOf x = pure k) {news : Array Value} (hn : (Builtin.firstCells z k x).run P w = .ok news w) (hroom : m + k ≤ cap) :
    (Builtin.append_ #[tS, tX] ty #[.slice base m cap, x]).run P w =
      match base with
      | none => .ok (.slice none (m + k) cap) w
      | some a => ((storeCells (a.add (m * z)) news.toList).run P w).andThen fun _ w' => .ok (.slice (some a) (m + k) cap) w' := by
  rcases srcK_under hX hX' with hd | ⟨u, hd⟩ <;> cases base <;>
    simp [Builtin.append_, run_underlying (tk_slice hS), run_underlying hd, run_sizeOf' hz, hlen, hn, hroom]

theorem run_app_grow {tS tX e : TypeId} {z by_ : Nat} {zv : Value} {kX : TK} (hS : tk P tS = some (.slice e)) (hz : tsz P e = some z) (hb : tby P e = some by_) (hzv : tz P e = some zv)
    (hX : tk P tX = some kX) (hX' : srcK kX = true) (ty : TypeId) (base : Option Addr) (m cap : Nat) (x : Value) {k : Nat} (hlen : Builtin.lenOf x = pure k) {olds news : Array Value}
    (ho : (Builtin.firstCells z m (.slice base m cap)).run P w.drew = .ok olds w.drew) (hn : (Builtin.firstCells z k x).run P w.drew = .ok news w.drew) (hroom : cap < m + k)
    (h63 : m + k ≤ 9223372036854775807) (hfit : (m + k) * by_ ≤ 140737488355328) :
    (Builtin.append_ #[tS, tX] ty #[.slice base m cap, x]).run P w =
      .ok (.slice (some ⟨w.heap.size, 0, none⟩) (m + k) (grownCap w (m + k) cap e)) (w.drew.alloc (.cells (olds ++ news ++ Builtin.zeroCells zv.cells (grownCap w (m + k) cap e - (m + k))) e)) := by
  obtain ⟨i, hi, hib⟩ := run_bytesOf' hb w
  have h1 : ¬ (m + k ≤ cap) := by omega
  have h2 : ¬ (9223372036854775807 < ((m : Int) + (k : Int))) := by omega
  have h3 : ¬ (281474976710656 < Builtin.nextslicecap (m + k) cap * i.bytes) := by have := growslice_fits (need := m + k) (old := cap) hroom hfit; rw [hib]; omega
  have hi' : ∀ w', (typeInfo e).run P w' = .ok i w' := by
    intro w'
    unfold tby at hb
    cases hinfo : P.info? e with
    | none => rw [hinfo] at hb; simp at hb
    | some i' =>
      have := run_typeInfo w hinfo
      rw [this] at hi
      simp only [Result.ok.injEq] at hi
      rw [← hi.1]
      exact run_typeInfo w' hinfo
  rcases srcK_under hX hX' with hd | ⟨u, hd⟩ <;>
    simp [Builtin.append_, run_underlying (tk_slice hS), run_underlying hd, run_sizeOf' hz, hlen, h1, h2, h3, hi', Question.forced, ho, hn, run_zero' hzv, newRow, grownCap]

theorem app_list {α : Type} (a b : List α) (i : Nat) (d : α) : (a ++ b).getD i d = if i < a.length then a.getD i d else b.getD (i - a.length) d := by
  simp only [List.getD_eq_getElem?_getD, List.getElem?_append]
  split <;> rfl

/-- Append to the slice that a token speaks of. -/
theorem SR.append {tS tX e : TypeId} {z by_ : Nat} {zv : Value} {kX : TK} (hS : tk P tS = some (.slice e)) (hz : tsz P e = some z) (hb : tby P e = some by_) (hzv : tz P e = some zv)
    (hX : tk P tX = some kX) (hX' : srcK kX = true) (ty : TypeId) {tok : Nat} {es new : List (List DV)} {v x : Value} {news : List Value}
    (h : SR X K ι H w) (htok : H[tok]? = some (.tok z es.length)) (hv : RelA K ι H.length (.tsl tok es) v) (hes : szOk z es = true) (hnew : elOk z new = true)
    (hsrc : Src P K z new x w news) (hzz : zv.cells.size = z) (hfit : (es.length + new.length) * (by_ + 1) ≤ 1099511627776) :
    ∃ v' w', (Builtin.append_ #[tS, tX] ty #[v, x]).run P w = .ok v' w' ∧ Left X K ι H.length (H.set tok (.tok z (es.length + new.length))) (.tsl tok (es ++ new)) v' w' := by
  have hlt : tok < H.length := (List.getElem?_eq_some_iff.1 htok).1
  obtain ⟨hpl, hcur⟩ := h.obj tok _ htok
  cases hv with
  | tsl _ _ _ hrel _ hle hc =>
    have hvc := hc hpl.symm
    have hsmall : es.length + new.length ≤ 1099511627776 := Nat.le_trans (Nat.le_mul_of_pos_right _ (by omega)) hfit
    have hby : (es.length + new.length) * by_ ≤ 140737488355328 := by
      have : (es.length + new.length) * by_ ≤ (es.length + new.length) * (by_ + 1) := Nat.mul_le_mul_left _ (by omega)
      omega
    obtain ⟨olds, ho1, ho2, ho3, base, cap, hvs, hlec, hbase⟩ := sl_cells (P := P) hrel hes
    have hszn : szOk z (es ++ new) = true := by rw [szOk_append]; simp [hes, elOk_sz hnew]
    have hnone : ∀ (u : Value), u ∈ news → u.oneCell' = true := fun u hu => by
      obtain ⟨q, hq, rfl⟩ := List.getElem_of_mem hu
      have hzp : 0 < z := by
        rcases Nat.eq_zero_or_pos z with rfl | hp
        · have := hsrc.nlen; rw [Nat.mul_zero] at this; omega
        · exact hp
      have hq' : q < new.length * z := by rw [← hsrc.nlen]; exact hq
      have hi : q / z < new.length := Nat.div_lt_of_lt_mul (by rw [Nat.mul_comm]; exact hq')
      have hj : q % z < z := Nat.mod_lt _ hzp
      have hr := hsrc.rel (q / z) (q % z) hi hj
      rw [show q / z * z + q % z = q from by rw [Nat.mul_comm]; exact Nat.div_add_mod q z] at hr
      have e : news.getD q undef = news[q] := by simp [List.getD_eq_getElem?_getD, hq]
      rw [e] at hr
      exact oneA_cell (K := K) (ι := ι) (n := 0) (elOk_one hnew hi hj) (.d _ _ hr)
    -- the elements of the whole
    have hall : ∀ i j, i < (es ++ new).length → j < z → Rel K (((es ++ new).getD i []).getD j .nilp) ((olds ++ news).getD (i * z + j) undef) := fun i j hi hj => by
      rw [app_list es new i, app_list olds news (i * z + j)]
      by_cases hc : i < es.length
      · have hlt : i * z + j < olds.length := by
          rw [ho1]
          have : (i + 1) * z ≤ es.length * z := Nat.mul_le_mul_right _ hc
          rw [Nat.add_mul] at this; omega
        rw [if_pos hc, if_pos hlt]
        exact ho3 i j hc hj
      · have hge : es.length * z ≤ i * z := Nat.mul_le_mul_right _ (by omega)
        rw [if_neg hc, if_neg (by omega)]
        have := hsrc.rel (i - es.length) j (by simp at hi; omega) hj
        rw [show (i - es.length) * z + j = i * z + j - olds.length from by rw [Nat.sub_mul, ho1]; omega] at this
        exact this
    have htot : (olds ++ news).length = (es ++ new).length * z := by rw [List.length_append, List.length_append, ho1, hsrc.nlen, Nat.add_mul]
    -- the way of a new row
    have grow : cap < es.length + new.length → ∃ v' w', (Builtin.append_ #[tS, tX] ty #[v, x]).run P w = .ok v' w' ∧ Left X K ι H.length (H.set tok (.tok z (es.length + new.length))) (.tsl tok (es ++ new)) v' w' := by
      intro hg
      have hrun := run_app_grow (P := P) (w := w) hS hz hb hzv hX hX' ty base es.length cap x hsrc.len (olds := olds.toArray) (news := news.toArray)
        (by rw [← hvs]; exact ho2 _ (fun a u e => by simpa using h.agree a u e)) (hsrc.run _ (fun a u e => by simpa using h.agree a u e)) hg (by omega) hby
      rw [← hvs] at hrun
      have hge := grownCap_ge w (es.length + new.length) cap e
      generalize hC : grownCap w (es.length + new.length) cap e = C at hrun hge
      generalize hvs' : olds.toArray ++ news.toArray ++ Builtin.zeroCells zv.cells (C - (es.length + new.length)) = cells at hrun
      have hcs : (es ++ new).length * z ≤ cells.size := by rw [← hvs', ← htot]; simp
      have hgetc : ∀ q, q < (es ++ new).length * z → cells.getD q undef = (olds ++ news).getD q undef := fun q hq => by
        rw [← htot] at hq
        rw [← hvs']
        simp only [Array.getD_eq_getD_getElem?, List.getD_eq_getElem?_getD]
        rw [Array.getElem?_append_left (by simpa using hq)]
        simp
      have hx := Ext.row (K := K) (w := w.drew) (fun a u e => by simpa using h.agree a u e) cells e ((es ++ new).length * z) hcs
      have hsr1 : SR X K ι H w.drew := h.drew
      have hbk : w.drew.heap.size = w.heap.size := rfl
      have hnewrel : Rel (kAdd K w.heap.size 0 ((es ++ new).length * z) cells) (.sl .any (es ++ new)) (.slice (some ⟨w.heap.size, 0, none⟩) (es ++ new).length C) := by
        refine rel_row (sz := z) (vs := cells) (by simp) (by simp) (by simp; omega) hszn (fun q _ hq => ?_) (fun i j hi hj => ?_)
        · unfold kAdd
          rw [if_pos ⟨rfl, rfl, Nat.zero_le _, by simpa using hq⟩]
        · have hlt : i * z + j < (es ++ new).length * z := by
            have : (i + 1) * z ≤ (es ++ new).length * z := Nat.mul_le_mul_right _ hi
            rw [Nat.add_mul] at this; omega
          rw [Nat.zero_add, hgetc _ hlt]
          exact (hall i j hi hj).mono hx.le
      have hcap : C * z ≤ cells.size := by
        rw [← hvs']
        simp only [Array.size_append, List.size_toArray, size_zeroCells, hzz, ho1, hsrc.nlen, ← Nat.add_mul]
        exact Nat.mul_le_mul_right _ (by omega)
      rw [hbk] at hx
      have hlen2 : (es ++ new).length = es.length + new.length := by simp
      have hset := h.set (K' := kAdd K w.heap.size 0 ((es ++ new).length * z) cells) (w' := w.drew.alloc (.cells cells e)) htok
        ⟨(ι tok).block, .slice (some ⟨w.heap.size, 0, none⟩) (es.length + new.length) C, es.length + new.length, w.heap.size⟩ (.tok z (es.length + new.length)) hx.le hx.agree
        ((h.drew.below).trans (hx.below.mono h.size)) (fun a ha => by rw [hx.old a (Nat.lt_of_lt_of_le ha h.size)]; exact h.kold a ha)
        ⟨rfl, by rw [hpl]; simp, fun hce => by
          rw [hpl] at hce
          simp only at hce
          exfalso; omega⟩
        (fun i q _ hq => (h.obj i q hq).ext ⟨hx.le, hx.old, hx.agree, (Below.refl _ _).drew.trans hx.below⟩)
        ⟨rfl, .inr ⟨_, C, rfl, hge, fun _ => ⟨rfl, rfl, h.size, cells, e, (0, 0), heap_alloc_new w.drew _, by simpa using hcap, fun o ho => ⟨?_, ?_⟩⟩⟩⟩
        (fun b hb i q hi hq hoq => by
          obtain ⟨rfl, _⟩ := hb
          have := (owns_lt (h.obj i q hq) hoq).1
          simp only at this
          omega)
      rotate_left
      · unfold kAdd
        rw [if_neg (by simp only [not_and]; intro _ _ _; rw [hlen2]; simpa using ho)]
        exact none_of_ge h.agree (Nat.le_refl _)
      · exact World.frozen?_alloc_new w.drew cells e o
      refine ⟨_, _, hrun, _, _, hset.1, ?_, hx.le, hset.2, by simp⟩
      rw [List.length_set]
      refine .tsl _ _ _ (by rw [← hlen2]; exact hnewrel) hlt ?_ ?_
      · rw [place_same]; simp
      · rw [place_same]; exact fun _ => rfl
    by_cases hroom : es.length + new.length ≤ cap
    · -- the way within the capacity
      have hrun := run_app_room (P := P) (w := w) hS hz hX hX' ty base es.length cap x hsrc.len (news := news.toArray) (hsrc.run _ h.agree) hroom
      rw [← hvs] at hrun
      rcases hcur with ⟨hcn, hm0⟩ | ⟨a, cap', hca, hle', hsp⟩
      · -- nil stays nil
        rw [hvc, hcn] at hvs
        simp only [Value.slice.injEq] at hvs
        obtain ⟨rfl, _, rfl⟩ := hvs
        have hn0 : new.length = 0 := by omega
        obtain rfl : new = [] := List.length_eq_zero_iff.1 hn0
        refine ⟨_, w, hrun, K, ι, ?_, ?_, Mem.le_refl K, Pls.le_refl _ _, by simp⟩
        · simp only [List.length_nil, Nat.add_zero]
          rw [show H.set tok (.tok z es.length) = H from by
            apply List.ext_getElem?
            intro i
            by_cases hc : i = tok
            · subst hc; rw [List.getElem?_set_self hlt]; exact htok.symm
            · rw [List.getElem?_set_ne (by omega)]]
          exact h
        · simp only [List.append_nil, List.length_nil, Nat.add_zero, List.length_set]
          rw [show Value.slice none es.length 0 = v from by rw [hvc, hcn, hm0]]
          exact .tsl _ _ _ hrel hlt (by omega) hc
      · rw [hvc, hca] at hvs
        simp only [Value.slice.injEq] at hvs
        obtain ⟨hb1, _, hb2⟩ := hvs
        subst hb1
        have hb3 := hb2.symm
        subst hb3
        by_cases hk0 : new = []
        · subst hk0
          have hn0 : news = [] := List.eq_nil_of_length_eq_zero (by rw [hsrc.nlen]; simp)
          subst hn0
          simp only [storeCells, Sem.run_pure, Result.andThen_ok, List.length_nil, Nat.add_zero] at hrun
          refine ⟨_, w, hrun, K, ι, ?_, ?_, Mem.le_refl K, Pls.le_refl _ _, by simp⟩
          · simp only [List.length_nil, Nat.add_zero]
            rw [show H.set tok (.tok z es.length) = H from by
              apply List.ext_getElem?
              intro i
              by_cases hc : i = tok
              · subst hc; rw [List.getElem?_set_self hlt]; exact htok.symm
              · rw [List.getElem?_set_ne (by omega)]]
            exact h
          · simp only [List.append_nil, List.length_set]
            rw [← hca, ← hvc]
            exact .tsl _ _ _ hrel hlt (by omega) hc
        · have hnpos : 0 < new.length := List.length_pos_iff.2 hk0
          obtain ⟨q1, q2, q3, cur, ety, fz, q4, q5, q6⟩ := hsp (by omega)
          obtain ⟨blk, off, spot⟩ := a
          simp only at q1 q2; subst q1
          subst q2
          have hcz : (es.length + new.length) * z ≤ cap * z := Nat.mul_le_mul_right _ hroom
          rw [Nat.add_mul] at hcz
          have hnl := hsrc.nlen
          simp only at q5 q6
          have hst := run_storeCells_any (P := P) (ι tok).tb (off + es.length * z) ety fz news 0 cur w q4 (by rw [hnl]; omega) hnone (fun q hq _ => (q6 q (by omega)).2)
          simp only [Addr.add_mk] at hrun
          simp only [hst, Result.andThen_ok, Nat.add_zero] at hrun
          have hspl := splice_get (cur := cur) (k := off + es.length * z) (vs := news) (by rw [hnl]; omega)
          have hsps := splice_size (cur := cur) (k := off + es.length * z) (vs := news) (by rw [hnl]; omega)
          generalize hrow : splice cur (off + es.length * z) news = row at hrun hspl hsps
          have hKnone : ∀ q, off + es.length * z ≤ q → K ⟨(ι tok).tb, q, none⟩ = none := fun q hq => (q6 q hq).1
          have hle2 : Mem.le K (kAdd K (ι tok).tb (off + es.length * z) (off + (es.length + new.length) * z) row) := fun a u hau => by
            unfold kAdd
            rw [if_neg]; · exact hau
            rintro ⟨c1, c2, c3, c4⟩
            obtain ⟨b', o', s'⟩ := a
            simp only at c1 c2 c3
            subst c1; subst c2
            rw [hKnone _ c3] at hau; contradiction
          have hoth : ∀ a : Addr, a.block ≠ (ι tok).tb → (kAdd K (ι tok).tb (off + es.length * z) (off + (es.length + new.length) * z) row) a = K a := fun a ha => by
            unfold kAdd
            rw [if_neg]; rintro ⟨c1, _⟩; exact ha c1
          have hagr : Agree (kAdd K (ι tok).tb (off + es.length * z) (off + (es.length + new.length) * z) row) (w.setRow (ι tok).tb row) := fun a u hau => by
            by_cases hab : a.block = (ι tok).tb
            · obtain ⟨b', o', s'⟩ := a
              simp only at hab; subst hab
              unfold kAdd at hau
              split at hau
              · rename_i hcnd
                obtain ⟨_, c2, c3, c4⟩ := hcnd
                simp only at c2 c3 c4; subst c2
                simp only [Option.some.injEq] at hau; subst hau
                rw [cell_setRow_same w _ _ cur row ety fz q4]
                rw [Nat.add_mul] at c4
                have : o' < row.size := by omega
                simp [Array.getD, this]
              · rename_i hcnd
                have hc1 := h.agree _ _ hau
                cases s' with
                | some s => unfold World.cell? at hc1; simp only [Option.isSome_some, if_true] at hc1; split at hc1 <;> contradiction
                | none =>
                  have hlow : o' < off + es.length * z := by
                    rcases Nat.lt_or_ge o' (off + es.length * z) with h' | h'
                    · exact h'
                    · rw [hKnone _ h'] at hau; contradiction
                  rw [cell_setRow_same w _ _ cur row ety fz q4]
                  have hc2 : w.cell? ⟨(ι tok).tb, o', none⟩ = cur[o']? := by simp [World.cell?, q4]
                  rw [hc2] at hc1
                  have ho' : o' < cur.size := (Array.getElem?_eq_some_iff.1 hc1).1
                  have hg := hspl o'
                  rw [if_neg (by omega)] at hg
                  have g1 : row[o']? = some (row.getD o' undef) := by simp [Array.getD, show o' < row.size from by omega]
                  have g2 : cur[o']? = some (cur.getD o' undef) := by simp [Array.getD, ho']
                  rw [g1, hg, ← g2]; exact hc1
            · rw [hoth a hab] at hau
              rw [cell_setRow_other _ _ _ _ hab]
              exact h.agree _ _ hau
          have hset := h.set (K' := kAdd K (ι tok).tb (off + es.length * z) (off + (es.length + new.length) * z) row) (w' := w.setRow (ι tok).tb row) htok
            ⟨(ι tok).block, .slice (some ⟨(ι tok).tb, off, none⟩) (es.length + new.length) cap, es.length + new.length, (ι tok).tb⟩ (.tok z (es.length + new.length)) hle2 hagr
            (below_setRow h.below q3) (fun a ha => by
              rw [hoth a (by omega)]; exact h.kold a ha)
            ⟨rfl, by rw [hpl]; simp, fun hce => by
              rw [hpl] at hce
              simp only at hce
              exfalso; omega⟩
            (fun i q hi hq => (h.obj i q hq).setRow' (fun ho => hi (h.sep i tok q _ _ hq htok ho ⟨rfl, _, cap, hca, by omega⟩)) hle2 hoth)
            ⟨rfl, .inr ⟨_, cap, rfl, hroom, fun _ => ⟨rfl, rfl, q3, row, ety, fz, setRow_heap w _ cur row ety fz q4, by simp only; omega, fun o ho => ⟨by
              unfold kAdd
              rw [if_neg (by rintro ⟨_, _, _, c4⟩; simp only at c4 ho; omega)]
              exact hKnone _ (by simp only [Nat.add_mul] at ho; omega), by
              rw [setRow_frozen]
              exact (q6 o (by simp only [Nat.add_mul] at ho; omega)).2⟩⟩⟩⟩
            (fun b hb i q hi hq hoq => by
              obtain ⟨rfl, _⟩ := hb
              exact hi (h.sep i tok q _ _ hq htok hoq ⟨rfl, _, cap, hca, by omega⟩))
          refine ⟨_, _, hrun, _, _, hset.1, ?_, hle2, hset.2, by simp⟩
          rw [List.length_set]
          refine .tsl _ _ _ ?_ hlt ?_ ?_
          · have hlen2 : (es ++ new).length = es.length + new.length := by simp
            have hfin : Rel (kAdd K (ι tok).tb (off + es.length * z) (off + (es.length + new.length) * z) row) (.sl .any (es ++ new)) (.slice (some ⟨(ι tok).tb, off, none⟩) (es ++ new).length cap) := ?_
            · rw [hlen2] at hfin; exact hfin
            have hrel' : Rel K (.sl .any es) (.slice (some ⟨(ι tok).tb, off, none⟩) es.length cap) := by rw [← hca, ← hvc]; exact hrel
            cases hrel' with
            | sl _ _ _ _ sz0 val hst0 hf0 hc0 hz0 hK0 hr0 =>
              refine .sl .any (es ++ new) _ cap z (fun i j => if i < es.length then val i j else news.getD ((i - es.length) * z + j) undef) (by simp) (by simp) (by omega) (fun i hi => szOk_get hszn hi) (fun i j hi hj => ?_) (fun i j hi hj => ?_)
              · by_cases hie : i < es.length
                · have e1 := hz0 i hie
                  have e2 := szOk_get hes hie
                  obtain rfl : sz0 = z := by omega
                  simp only [hie, if_true]
                  exact hle2 _ _ (hK0 i j hie hj)
                · simp only [hie, if_false]
                  rw [Addr.add_mk]
                  have hge : es.length * z ≤ i * z := Nat.mul_le_mul_right _ (by omega)
                  have hup : (i + 1) * z ≤ (es ++ new).length * z := Nat.mul_le_mul_right _ hi
                  rw [hlen2, Nat.add_mul, Nat.add_mul] at hup
                  unfold kAdd
                  rw [if_pos ⟨rfl, rfl, by simp only; omega, by simp only [Nat.add_mul]; omega⟩]
                  have hq : off + es.length * z ≤ off + (i * z + j) ∧ off + (i * z + j) < off + es.length * z + news.length := ⟨by omega, by rw [hnl]; omega⟩
                  have hidx : off + (i * z + j) - (off + es.length * z) = (i - es.length) * z + j := by rw [Nat.sub_mul]; omega
                  rw [hspl, if_pos hq, hidx]
              · rw [app_list es new i]
                by_cases hie : i < es.length
                · have e1 := hz0 i hie
                  have e2 := szOk_get hes hie
                  obtain rfl : sz0 = z := by omega
                  simp only [hie, if_true]
                  exact (hr0 i j hie hj).mono hle2
                · simp only [hie, if_false]
                  exact (hsrc.rel _ j (by omega) hj).mono hle2
          · rw [place_same]; simp
          · rw [place_same]; exact fun _ => rfl
    · exact grow (by omega)

end
end Go.Proofs.YtjmldlknegbimaaDoor.Sx
