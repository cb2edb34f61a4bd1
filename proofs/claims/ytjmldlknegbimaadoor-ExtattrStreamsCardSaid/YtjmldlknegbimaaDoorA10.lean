/- One step that uses the call's own memory, and its soundness. Own library, part 10. -/
import Derived.Test.YtjmldlknegbimaaDoorA9
set_option linter.unusedVariables false
set_option linter.unusedSimpArgs false
namespace Go.Proofs.YtjmldlknegbimaaDoor.Sx
open Go Go.RowKit

/-- The elements of what is appended. -/
def srcA (z : Nat) (x : AV) : Option (List (List DV)) :=
  match x with
  | .d (.sl _ new) => some new
  | .tsl _ new => some new
  | .d (.str s) => if z = 1 then some (s.map byteEl) else none
  | _ => none

def srcKA (x : AV) : TK → Bool
  | .string => match x with | .d (.str _) => true | _ => false
  | .slice _ => match x with | .d (.str _) => false | _ => true
  | _ => false

def apB (H : List HO) (z by_ : Nat) (s : AV) (new : List (List DV)) : Option (AV × List HO) :=
  match s with
  | .d (.sl st es) => if st ≠ .any ∧ szOk z es = true ∧ (es.length + new.length) * (by_ + 1) ≤ 1099511627776 then some (.tsl H.length (es ++ new), H ++ [.tok z (es.length + new.length)]) else none
  | .tsl tok es =>
    match H[tok]? with
    | some (.tok z' m) => if z' = z ∧ m = es.length ∧ szOk z es = true ∧ (es.length + new.length) * (by_ + 1) ≤ 1099511627776 then some (.tsl tok (es ++ new), H.set tok (.tok z (es.length + new.length))) else none
    | _ => none
  | _ => none

def apA (P : Program) (H : List HO) (tS tX : TypeId) (s x : AV) : Option (AV × List HO) :=
  match tk P tS, tk P tX with
  | some (.slice e), some kX =>
    match tsz P e, tby P e, tz P e with
    | some z, some by_, some zv =>
      if zv.cells.size = z ∧ srcKA x kX = true then
        match srcA z x with
        | some new => if elOk z new = true then apB H z by_ s new else none
        | none => none
      else none
    | _, _, _ => none
  | _, _ => none

def chunk (s : Nat) : Nat → List DV → List (List DV)
  | 0, _ => []
  | k + 1, ds => ds.take s :: chunk s k (ds.drop s)

def zerosA (len : Nat) (zs : List AV) : List AV := (List.replicate len zs).flatten

def bsA (P : Program) (H : List HO) (t : TypeId) (len : Nat) (parts : List (Nat × AV)) : Option (AV × List HO) :=
  match tk P t with
  | some (.slice e) =>
    match tsz P e, tz P e with
    | some s, some zv =>
      if len * s ≤ 16777216 ∧ zv.cells.size = s then
        match fillA (fun i => some (i * s, s)) (zerosA len (ofVL zv.cells.toList)) parts with
        | some cs =>
          match allD cs with
          | some ds => some (.d (.sl .full (chunk s len ds)), H)
          | none => some (.bsl H.length 0 len len, H ++ [.box cs])
        | none => none
      else none
    | _, _ => none
  | _ => none

def mkA (P : Program) (H : List HO) (t : TypeId) (l c : AV) : Option (AV × List HO) :=
  match tk P t, l, c with
  | some (.slice e), .d (.int _ a), .d (.int _ b) =>
    match tsz P e, tby P e, tz P e with
    | some s, some by_, some zv =>
      if s = 1 ∧ zv.cells.size = 1 ∧ a = b ∧ 0 ≤ a ∧ a * (by_ + 1) ≤ 1099511627776 then
        some (.bsl H.length 0 a.toNat a.toNat, H ++ [.box (List.replicate a.toNat (ofV (zv.cells.getD 0 undef)))])
      else none
    | _, _, _ => none
  | _, _, _ => none

def isZ : Operand → Bool
  | .const (.int _ n) => decide (n = 0)
  | _ => false

/-- An empty slice with room. -/
def mkZ (P : Program) (H : List HO) (t : TypeId) (c : AV) : Option (AV × List HO) :=
  match tk P t, c with
  | some (.slice e), .d (.int _ b) =>
    match tsz P e, tby P e, tz P e with
    | some s, some by_, some _ => if 0 ≤ b ∧ b * (by_ + 1) ≤ 1099511627776 then some (.tsl H.length [], H ++ [.tok s 0]) else none
    | _, _, _ => none
  | _, _ => none

def ldB (P : Program) (H : List HO) (t : TypeId) (x : AV) : Option (AV × List HO) :=
  match x with
  | .ptr id off =>
    match H[id]? with
    | some (.box cs) => match partA P t cs off with | some r => some (r, H) | none => none
    | _ => none
  | _ => none

def stB (P : Program) (H : List HO) (t : TypeId) (x y : AV) : Option (AV × List HO) :=
  match x, cellsA y with
  | .ptr id off, some vc => if tsz P t = some vc.length then (match stA H id off vc with | some H' => some (.d (.tup []), H') | none => none) else none
  | _, _ => none

/-- bytes out of a box -/
def cvH (P : Program) (H : List HO) (s d : TypeId) (x : AV) : Option (AV × List HO) :=
  match tk P s, tk P d, x with
  | some (.slice e), some .string, .bsl id off len _ =>
    match tk P e, H[id]? with
    | some (.int .u8), some (.box cs) =>
      if off + len ≤ cs.length then
        match allD ((cs.drop off).take len) with
        | some ds => match bytesOf (ds.map fun d => [d]) with | some l => some (.d (.str l), H) | none => none
        | none => none
      else none
    | _, _ => none
  | _, _, _ => none

/-! Maps keyed by strings -/
def mpFind (k : List UInt8) : List (List UInt8 × DV) → Option DV
  | [] => none
  | (k', d) :: r => if k = k' then some d else mpFind k r
def mpPut (k : List UInt8) (d : DV) : List (List UInt8 × DV) → List (List UInt8 × DV)
  | [] => [(k, d)]
  | (k', d') :: r => if k = k' then (k, d) :: r else (k', d') :: mpPut k d r

def tkm (P : Program) (t : TypeId) : Option (TypeId × TypeId) := match P.underlying t with | some (.map k e) => some (k, e) | _ => none

def luR (ok : Bool) (z : AV) (o : Option DV) : AV :=
  match ok, o with
  | true, some d => .d (.tup [d, .bool true])
  | true, none => mkTup [z, .d (.bool false)]
  | false, some d => .d d
  | false, none => z

def luA (P : Program) (H : List HO) (t : TypeId) (x k : AV) (ok : Bool) : Option (AV × List HO) :=
  match tkm P t, x, k with
  | some (kt, et), .mp id, .d (.str s) =>
    match tk P kt, tz P et, H[id]? with
    | some .string, some z, some (.mp es) => some (luR ok (ofV z) (mpFind s es), H)
    | _, _, _ => none
  | _, _, _ => none

def muA (P : Program) (H : List HO) (t : TypeId) (m k v : AV) : Option (AV × List HO) :=
  match tkm P t, m, k, v with
  | some (kt, _), .mp id, .d (.str s), .d d =>
    match tk P kt, H[id]? with
    | some .string, some (.mp es) => some (.d (.tup []), H.set id (.mp (mpPut s d es)))
    | _, _ => none
  | _, _, _, _ => none

def hst (P : Program) (G : Gl) (e : Env) (H : List HO) : Op → Option (AV × List HO)
  | .alloc t => match tz P t with | some z => some (.ptr H.length 0, H ++ [.box (ofVL z.cells.toList)]) | none => none
  | .box t x => match cellsA (ev G e x) with | some cs => some (.ptr H.length 0, H ++ [.box cs]) | none => none
  | .load t x => ldB P H t (ev G e x)
  | .store t x y => stB P H t (ev G e x) (ev G e y)
  | .makeSlice t l c => if isZ l = true then mkZ P H t (ev G e c) else mkA P H t (ev G e l) (ev G e c)
  | .buildSlice t len parts => bsA P H t len (parts.toList.map fun p => (p.1, ev G e p.2))
  | .convert s d x => cvH P H s d (ev G e x)
  | .call ⟨.builtin .append, ⟨[s, x]⟩, ⟨[tS, tX]⟩⟩ => apA P H tS tX (ev G e s) (ev G e x)
  | .makeMap t none => some (.mp H.length, H ++ [.mp []])
  | .lookup t x k ok => luA P H t (ev G e x) (ev G e k) ok
  | .mapUpdate t m k v => muA P H t (ev G e m) (ev G e k) (ev G e v)
  | _ => none

/-- What an operation that goes on hands to its slot. -/
def nextV : Next → Option Value
  | .value v => some v
  | .skip => some undef
  | _ => none

section
variable {P : Program} {X : Cxt} {K K' : Mem} {ι ι' : Nat → Pl} {n : Nat} {H : List HO} {w w' : World} {G : Gl}

theorem src_sound {z : Nat} {x : AV} {v : Value} {new : List (List DV)} (h : srcA z x = some new) (hx : RelA K ι n x v) (hz : elOk z new = true) (w : World) : ∃ news, Src P K z new v w news := by
  have main : ∀ {v : Value}, Rel K (.sl .any new) v → ∃ news, Src P K z new v w news := by
    intro v hr
    obtain ⟨olds, h1, h2, h3, base, cap, h4, _, _⟩ := sl_cells (P := P) hr (elOk_sz hz)
    exact ⟨olds, by subst h4; rfl, h1, fun w' hw' => h2 w' hw', h3⟩
  unfold srcA at h
  split at h
  · simp only [Option.some.injEq] at h; subst h
    exact main hx.get.any
  · simp only [Option.some.injEq] at h; subst h
    cases hx with
    | tsl _ _ _ hg _ _ _ => exact main hg
  · rename_i s
    split at h
    · rename_i hz1
      subst hz1
      simp only [Option.some.injEq] at h; subst h
      have hg := hx.get
      cases hg
      refine ⟨s.map fun b => Value.int .u8 b.toNat, by simp [Builtin.lenOf, ByteArray.size], by simp, fun w' _ => by simpa using str_cells s w', fun i j hi hj => ?_⟩
      have hi' : i < s.length := by simpa using hi
      obtain rfl : j = 0 := by omega
      simp [List.getD_eq_getElem?_getD, hi', byteEl]
      exact .int _ _
    · contradiction
  · contradiction

theorem srcKA_srcK {x : AV} {k : TK} (h : srcKA x k = true) : srcK k = true := by
  cases k <;> simp [srcKA] at h <;> rfl

theorem chunk_length (s : Nat) : ∀ (k : Nat) (ds : List DV), (chunk s k ds).length = k
  | 0, _ => rfl
  | k + 1, ds => by simp [chunk, chunk_length s k]

theorem chunk_get (s : Nat) : ∀ (k i : Nat) (ds : List DV), i < k → (chunk s k ds).getD i [] = (ds.drop (i * s)).take s
  | 0, i, _, h => by omega
  | k + 1, 0, ds, _ => by simp [chunk]
  | k + 1, i + 1, ds, h => by
    have := chunk_get s k i (ds.drop s) (by omega)
    rw [List.drop_drop] at this
    simp only [chunk, List.getD_cons_succ]
    rw [this, Nat.add_mul, Nat.one_mul, Nat.add_comm]

theorem zerosA_length (len : Nat) (zs : List AV) : (zerosA len zs).length = len * zs.length := by
  simp [zerosA]

theorem zerosA_get : ∀ (len : Nat) (zs : List AV) (i : Nat), i < len * zs.length → (zerosA len zs).getD i .junk = zs.getD (i % zs.length) .junk
  | 0, zs, i, h => by simp at h
  | len + 1, zs, i, h => by
    have e : zerosA (len + 1) zs = zs ++ zerosA len zs := by simp [zerosA, List.replicate_succ]
    rw [e, List.getD_eq_getElem?_getD, List.getElem?_append]
    split
    · rename_i hi
      rw [Nat.mod_eq_of_lt hi, List.getD_eq_getElem?_getD]
    · rename_i hi
      have := zerosA_get len zs (i - zs.length) (by rw [Nat.add_mul, Nat.one_mul] at h; omega)
      rw [List.getD_eq_getElem?_getD] at this
      rw [this]
      congr 1
      exact (Nat.mod_eq_sub_mod (by omega)).symm

theorem Rel.cell_of {cs : List DV} {vs : Array Value} (h : ∀ i, i < cs.length → RelA K ι n ((cs.map AV.d).getD i .junk) (vs.getD i undef)) (i : Nat) (hi : i < cs.length) : Rel K (cs.getD i .nilp) (vs.getD i undef) := by
  have := h i hi
  rw [getD_map' AV.d cs i .nilp _ hi] at this
  exact this.get

theorem Left.of_eq {r : AV} {v : Value} (h : SR X K ι H w) (hr : RelA K ι H.length r v) : Left X K ι H.length H r v w := ⟨K, ι, h, hr, Mem.le_refl K, Pls.le_refl _ _, Nat.le_refl _⟩

theorem Left.newBox (h : SR X K ι H w) (vs : Array Value) (ty : TypeId) (cs : List AV) (hl : vs.size = cs.length) (hr : ∀ j, j < cs.length → RelA K ι H.length (cs.getD j .junk) (vs.getD j undef)) {r : AV} {v : Value}
    (hv : RelA K (place ι H.length ⟨w.heap.size, undef, 0, 0⟩) (H.length + 1) r v) : Left X K ι H.length (H ++ [.box cs]) r v (w.alloc (.cells vs ty)) :=
  ⟨K, _, h.newBox vs ty cs hl hr, by simpa using hv, Mem.le_refl K, place_le _ _ _, by simp⟩

theorem apA_sound {tS tX ty : TypeId} {s x r : AV} {vs vx : Value} {H' : List HO} (h : apA P H tS tX s x = some (r, H')) (hsr : SR X K ι H w) (hs : RelA K ι H.length s vs) (hx : RelA K ι H.length x vx) :
    ∃ v w', (Builtin.append_ #[tS, tX] ty #[vs, vx]).run P w = .ok v w' ∧ Left X K ι H.length H' r v w' := by
  unfold apA at h
  split at h
  · rename_i e kX hS hX
    split at h
    · rename_i z by_ zv hz hb hzv
      split at h
      · rename_i hc
        obtain ⟨hzz, hkx⟩ := hc
        split at h
        · rename_i new hnew
          split at h
          · rename_i hel
            obtain ⟨news, hsrc⟩ := src_sound (P := P) hnew hx hel w
            unfold apB at h
            split at h
            · rename_i st es
              split at h
              · rename_i hcc
                obtain ⟨hst, hes, hfit⟩ := hcc
                simp only [Option.some.injEq, Prod.mk.injEq] at h
                obtain ⟨rfl, rfl⟩ := h
                obtain ⟨p, g1, g2, g3⟩ := hsr.ghostTok z hst hs.get
                have htok : (H ++ [HO.tok z es.length])[H.length]? = some (.tok z es.length) := by simp
                obtain ⟨v', w', hrun, K', ι', q1, q2, q3, q4, q5⟩ := g1.append (P := P) hS hz hb hzv hX (srcKA_srcK hkx) ty htok (by simpa using g2) hes hel hsrc hzz hfit
                refine ⟨v', w', hrun, K', ι', ?_, ?_, q3, Pls.le_trans (by simp) g3 q4, by simp⟩
                · simpa using q1
                · simpa using q2
              · contradiction
            · rename_i tok es
              split at h
              · rename_i z' m htok
                split at h
                · rename_i hcc
                  obtain ⟨rfl, rfl, hes, hfit⟩ := hcc
                  simp only [Option.some.injEq, Prod.mk.injEq] at h
                  obtain ⟨rfl, rfl⟩ := h
                  exact hsr.append (P := P) hS hz hb hzv hX (srcKA_srcK hkx) ty htok hs hes hel hsrc hzz hfit
                · contradiction
              · contradiction
            · contradiction
          · contradiction
        · contradiction
      · contradiction
    · contradiction
  · contradiction

theorem bsA_sound {t : TypeId} {len : Nat} {parts : List (Nat × AV)} {vparts : Array (Nat × Value)} {r : AV} {H' : List HO} (h : bsA P H t len parts = some (r, H')) (hsr : SR X K ι H w) (hl : vparts.size = parts.length)
    (hp : ∀ (i : Nat) (x : Nat × AV) (y : Nat × Value), parts[i]? = some x → vparts.toList[i]? = some y → x.1 = y.1 ∧ RelA K ι H.length x.2 y.2) :
    ∃ v w', (Instr.buildSlice t len vparts).run P w = .ok v w' ∧ Left X K ι H.length H' r v w' := by
  unfold bsA at h
  split at h
  · rename_i e hk
    split at h
    · rename_i s zv hs hz
      split at h
      · rename_i hc
        obtain ⟨hc1, hc2⟩ := hc
        split at h
        · rename_i cs hf
          have hzl : (ofVL zv.cells.toList).length = s := by rw [ofVL_length]; simpa using hc2
          obtain ⟨vcs, e1, e2, e3⟩ := fill_sound (K := K) (ι := ι) (n := H.length) _ parts vparts.toList _ cs ((Array.range (len * s)).map fun i => zv.cells.getD (i % s) undef) hf (by simpa using hl) hp
            (by rw [zerosA_length, hzl]; simp) (fun i hi => by
              rw [zerosA_length, hzl] at hi
              have hsp : 0 < s := by
                rcases Nat.eq_zero_or_pos s with rfl | hp
                · simp at hi
                · exact hp
              rw [zerosA_get _ _ _ (by rw [hzl]; exact hi), hzl]
              have hm : i % s < s := Nat.mod_lt _ hsp
              have : ((Array.range (len * s)).map fun i => zv.cells.getD (i % s) undef).getD i undef = zv.cells.getD (i % s) undef := by
                rw [Array.getD_eq_getD_getElem?, Array.getElem?_map]
                have : (Array.range (len * s))[i]? = some i := by simp [hi]
                rw [this]; rfl
              rw [this, ← getD_toList]
              exact ofVL_rel K ι H.length _ _ (by simpa [hc2] using hm))
          have hcsl : cs.length = len * s := by
            have : ∀ (parts : List (Nat × AV)) (c c' : List AV), fillA (fun i => some (i * s, s)) c parts = some c' → c'.length = c.length := by
              intro parts
              induction parts with
              | nil => intro c c' h; simp [fillA] at h; rw [h]
              | cons p rest ih =>
                intro c c' h
                obtain ⟨i, x⟩ := p
                simp only [fillA] at h
                split at h
                · rename_i off size vc hpl hcv
                  split at h
                  · rename_i hcond
                    rw [ih _ _ h]
                    simp only [Option.some.injEq, Prod.mk.injEq] at hpl
                    simp; omega
                  · contradiction
                · contradiction
            rw [this _ _ _ hf, zerosA_length, hzl]
          have hrun : (Instr.buildSlice t len vparts).run P w = .ok (.slice (some ⟨w.heap.size, 0, none⟩) len len) (w.alloc (.cells vcs e)) := by
            have hcells : (Array.range (len * s)).map (fun i => zv.cells[i % zv.cells.size]!) = (Array.range (len * s)).map fun i => zv.cells.getD (i % s) undef := by
              apply Array.ext
              · simp
              · intro i h1 h2
                simp only [Array.getElem_map, Array.getElem_range]
                have hi : i < len * s := by simpa using h1
                have hsp : 0 < s := by
                  rcases Nat.eq_zero_or_pos s with rfl | hp
                  · simp at hi
                  · exact hp
                have hm : i % s < zv.cells.size := by rw [hc2]; exact Nat.mod_lt _ hsp
                rw [hc2]
                simp [Array.getD, hm, getElem!_pos]
            have hbig : ¬ (len * s > 2 ^ 24) := by omega
            by_cases h0 : len * s = 0
            · have hz0 : (Array.range (len * s)).map (fun i => (#[] : Array Value)[i % (#[] : Array Value).size]!) = (Array.range (len * s)).map fun i => zv.cells.getD (i % s) undef := by
                rw [h0]; simp
              simp only [Instr.buildSlice, Sem.run_bind, run_underlying (tk_slice hk), Result.andThen_ok, run_sizeOf' hs, Sem.run_pure, h0, if_true]
              rw [h0] at hz0 e1
              rw [if_neg (by omega)]
              simp only [Sem.run_bind, Sem.run_pure, Result.andThen_ok]
              rw [hz0, e1]
              rfl
            · simp only [Instr.buildSlice, Sem.run_bind, run_underlying (tk_slice hk), Result.andThen_ok, run_sizeOf' hs, Sem.run_pure]
              rw [if_neg hbig, if_neg h0]
              simp only [Sem.run_bind, Sem.run_pure, Result.andThen_ok, run_zero' hz]
              rw [hcells, e1]
              rfl
          split at h
          · rename_i ds hds
            simp only [Option.some.injEq, Prod.mk.injEq] at h
            obtain ⟨rfl, rfl⟩ := h
            obtain ⟨d1, d2⟩ := allD_get hds
            have hcsz : vcs.size = len * s := by rw [e2, hcsl]
            have hx := Ext.row (K := K) (w := w) hsr.agree vcs e (len * s) (by omega)
            have hchl := chunk_length s len ds
            refine ⟨_, _, hrun, _, ι, hsr.ext hx, .d _ _ ?_, hx.le, Pls.le_refl _ _, Nat.le_refl _⟩
            have hrow := rel_row (K := kAdd K w.heap.size 0 (len * s) vcs) (es := chunk s len ds) (sz := s) (b := w.heap.size) (o := 0) (cap := len) (vs := vcs) (st := .full) (by simp) (fun _ => hchl.symm) (by rw [hchl]; exact Nat.le_refl _)
              (by
                simp only [szOk, List.all_eq_true]
                intro c hcm
                obtain ⟨i, hi, rfl⟩ := List.getElem_of_mem hcm
                have hi' : i < len := by rwa [hchl] at hi
                have hg := chunk_get s len i ds hi'
                rw [List.getD_eq_getElem?_getD, List.getElem?_eq_getElem hi] at hg
                simp only [Option.getD_some] at hg
                rw [hg]
                have : (i + 1) * s ≤ len * s := Nat.mul_le_mul_right _ hi'
                rw [Nat.add_mul] at this
                simp only [List.length_take, List.length_drop, beq_iff_eq]
                omega)
              (fun q _ hq => by
                unfold kAdd
                rw [hchl] at hq
                rw [if_pos ⟨rfl, rfl, Nat.zero_le _, by simpa using hq⟩])
              (fun i j hi hj => by
                rw [hchl] at hi
                have hle : (i + 1) * s ≤ len * s := Nat.mul_le_mul_right _ hi
                rw [Nat.add_mul] at hle
                rw [chunk_get s len i ds hi, getD_take_drop _ _ _ _ _ hj, Nat.zero_add]
                have := e3 (i * s + j) (by omega)
                rw [d2 _ (by omega)] at this
                exact this.get.mono hx.le)
            rwa [hchl] at hrow
          · simp only [Option.some.injEq, Prod.mk.injEq] at h
            obtain ⟨rfl, rfl⟩ := h
            refine ⟨_, _, hrun, Left.newBox hsr vcs e cs e2 e3 ?_⟩
            have := RelA.bsl (K := K) (ι := place ι H.length ⟨w.heap.size, undef, 0, 0⟩) (n := H.length + 1) H.length 0 len len (by omega)
            rwa [place_same] at this
        · contradiction
      · contradiction
    · contradiction
  · contradiction

theorem mkA_sound {t : TypeId} {l c r : AV} {vl vc : Value} {H' : List HO} (h : mkA P H t l c = some (r, H')) (hsr : SR X K ι H w) (hl : RelA K ι H.length l vl) (hc : RelA K ι H.length c vc) :
    ∃ v w', (Instr.makeSlice t vl vc).run P w = .ok v w' ∧ Left X K ι H.length H' r v w' := by
  unfold mkA at h
  split at h
  · rename_i e k1 a k2 b hk
    have g1 := hl.get
    have g2 := hc.get
    cases g1
    cases g2
    split at h
    · rename_i s by_ zv hs hb hz
      split at h
      · rename_i hcc
        obtain ⟨rfl, hzs, rfl, h0, hfit⟩ := hcc
        simp only [Option.some.injEq, Prod.mk.injEq] at h
        obtain ⟨rfl, rfl⟩ := h
        obtain ⟨m, rfl⟩ := Int.eq_ofNat_of_zero_le h0
        have hfit' : m * (by_ + 1) ≤ 1099511627776 := by
          have e : ((m * (by_ + 1) : Nat) : Int) = (m : Int) * ((by_ : Int) + 1) := by rw [Int.natCast_mul, Int.natCast_add]; rfl
          rw [← e] at hfit
          generalize m * (by_ + 1) = q at hfit
          omega
        have hm : m ≤ 1099511627776 := Nat.le_trans (Nat.le_mul_of_pos_right _ (by omega)) hfit'
        have hby : m * by_ ≤ 1099511627776 := Nat.le_trans (Nat.mul_le_mul_left _ (by omega)) hfit'
        have hw : IntKind.i64.wrap (m : Int) = m := wrap_i64 (by omega) (by omega)
        obtain ⟨i, hi, hib⟩ := run_bytesOf' hb w
        have hbi : ¬ ((i.bytes : Int) * (m : Int) > 2 ^ 48) := by
          rw [hib, Int.mul_comm, ← Int.natCast_mul]
          generalize m * by_ = q at hby
          omega
        have hcell : zv.cells = #[zv.cells.getD 0 undef] := by
          apply Array.ext
          · simp [hzs]
          · intro i h1 h2
            have : i = 0 := by omega
            subst this
            simp [Array.getD, hzs]
        have hrow : (Array.range m).map (fun q => zv.cells[q % zv.cells.size]!) = Array.replicate m (zv.cells.getD 0 undef) := by
          apply Array.ext
          · simp
          · intro q h1 h2
            simp only [Array.getElem_map, Array.getElem_range, Array.getElem_replicate, hzs, Nat.mod_one]
            simp [Array.getD, hzs]
        have hrun : (Instr.makeSlice t (.int k1 m) (.int k2 m)).run P w = .ok (.slice (some ⟨w.heap.size, 0, none⟩) m m) (w.alloc (.cells (Array.replicate m (zv.cells.getD 0 undef)) e)) := by
          have e1 : ¬ ((m : Int) < 0) := by omega
          have e2 : ¬ ((m : Int) > (m : Int)) := by omega
          have e3 : (Int.toNat (m : Int)) = m := by simp
          have e4 : (decide ((m : Int) < 0) || decide ((i.bytes : Int) * (m : Int) > 2 ^ 48)) = false := by simp only [decide_eq_false e1, decide_eq_false hbi]; rfl
          simp only [Instr.makeSlice, Sem.run_bind, run_underlying (tk_slice hk), Result.andThen_ok, asInt, asIntOf, Sem.run_pure, hi, hw, e3]
          rw [if_neg (by rw [e4]; simp [e1, e2])]
          simp only [Sem.run_bind, run_askRoom, Result.andThen_ok, run_sizeOf' hs, Nat.mul_one]
          by_cases hm0 : m = 0
          · subst hm0
            have hr0 : Array.range 0 = #[] := rfl
            simp [newRow, hr0]
          · rw [if_neg hm0]
            simp only [Sem.run_bind, run_zero' hz, Result.andThen_ok, Sem.run_pure, newRow]
            rw [hrow]
            rfl
        refine ⟨_, _, hrun, Left.newBox hsr _ e _ (by simp) (fun j hj => ?_) ?_⟩
        · have hj' : j < m := by simpa using hj
          have e1 : (List.replicate (Int.toNat (m : Int)) (ofV (zv.cells.getD 0 undef))).getD j .junk = ofV (zv.cells.getD 0 undef) := by
            simp [List.getD_eq_getElem?_getD, List.getElem?_replicate, hj']
          have e2 : (Array.replicate m (zv.cells.getD 0 undef)).getD j undef = zv.cells.getD 0 undef := by
            simp [Array.getD, hj']
          rw [e1, e2]
          exact ofV_rel K ι H.length _
        · have := RelA.bsl (K := K) (ι := place ι H.length ⟨w.heap.size, undef, 0, 0⟩) (n := H.length + 1) H.length 0 m m (by omega)
          rw [place_same] at this
          simpa using this
      · contradiction
    · contradiction
  · contradiction

theorem mkZ_sound {t : TypeId} {c r : AV} {k0 : IntKind} {vc : Value} {H' : List HO} (h : mkZ P H t c = some (r, H')) (hsr : SR X K ι H w) (hc : RelA K ι H.length c vc) :
    ∃ v w', (Instr.makeSlice t (.int k0 0) vc).run P w = .ok v w' ∧ Left X K ι H.length H' r v w' := by
  unfold mkZ at h
  split at h
  · rename_i e k2 b hk
    have g2 := hc.get
    cases g2
    split at h
    · rename_i s by_ zv hs hb hz
      split at h
      · rename_i hcc
        obtain ⟨h0, hfit⟩ := hcc
        simp only [Option.some.injEq, Prod.mk.injEq] at h
        obtain ⟨rfl, rfl⟩ := h
        obtain ⟨m, rfl⟩ := Int.eq_ofNat_of_zero_le h0
        have hfit' : m * (by_ + 1) ≤ 1099511627776 := by
          have e : ((m * (by_ + 1) : Nat) : Int) = (m : Int) * ((by_ : Int) + 1) := by rw [Int.natCast_mul, Int.natCast_add]; rfl
          rw [← e] at hfit
          generalize m * (by_ + 1) = q at hfit
          omega
        have hm : m ≤ 1099511627776 := Nat.le_trans (Nat.le_mul_of_pos_right _ (by omega)) hfit'
        have hby : m * by_ ≤ 1099511627776 := Nat.le_trans (Nat.mul_le_mul_left _ (by omega)) hfit'
        have hw : IntKind.i64.wrap (m : Int) = m := wrap_i64 (by omega) (by omega)
        have hw0 : IntKind.i64.wrap 0 = 0 := wrap_i64 (by omega) (by omega)
        obtain ⟨i, hi, hib⟩ := run_bytesOf' hb w
        have hbi : ¬ ((i.bytes : Int) * (m : Int) > 2 ^ 48) := by
          rw [hib, Int.mul_comm, ← Int.natCast_mul]
          generalize m * by_ = q at hby
          omega
        have hrun : ∃ vs : Array Value, vs.size = m * s ∧ (Instr.makeSlice t (.int k0 0) (.int k2 m)).run P w = .ok (.slice (some ⟨w.heap.size, 0, none⟩) 0 m) (w.alloc (.cells vs e)) := by
          have e1 : ¬ ((m : Int) < 0) := by omega
          have e2 : ¬ ((0 : Int) > (m : Int)) := by omega
          have e3 : (Int.toNat (m : Int)) = m := by simp
          have e4 : (decide ((m : Int) < 0) || decide ((i.bytes : Int) * (m : Int) > 2 ^ 48)) = false := by simp only [decide_eq_false e1, decide_eq_false hbi]; rfl
          simp only [Instr.makeSlice, Sem.run_bind, run_underlying (tk_slice hk), Result.andThen_ok, asInt, asIntOf, Sem.run_pure, hi, hw, hw0, e3]
          rw [if_neg (by rw [e4]; simp [e2])]
          simp only [Sem.run_bind, run_askRoom, Result.andThen_ok, run_sizeOf' hs]
          by_cases hm0 : m * s = 0
          · rw [if_pos hm0]
            exact ⟨(Array.range (m * s)).map (fun q => (#[] : Array Value)[q % (#[] : Array Value).size]!), by simp, by simp [newRow]⟩
          · rw [if_neg hm0]
            simp only [Sem.run_bind, run_zero' hz, Result.andThen_ok, Sem.run_pure, newRow]
            exact ⟨(Array.range (m * s)).map (fun q => zv.cells[q % zv.cells.size]!), by simp, rfl⟩
        obtain ⟨vs, hvs, hrun⟩ := hrun
        have hal : SR X K ι H (w.alloc (.cells vs e)) := hsr.ext ⟨Mem.le_refl K, fun _ _ => rfl, agree_alloc hsr.agree _, (Below.refl _ _).alloc (Nat.le_refl _) _⟩
        refine ⟨_, _, hrun, K, _, hsr.push hal ⟨0, .slice (some ⟨w.heap.size, 0, none⟩) 0 m, 0, w.heap.size⟩ (.tok s 0) ⟨rfl, .inr ⟨⟨w.heap.size, 0, none⟩, m, rfl, Nat.zero_le _, fun _ => ⟨rfl, rfl, hsr.size, vs, e, (0, 0), heap_alloc_new w _, by rw [hvs]; simp, fun o _ => ⟨none_of_ge hsr.agree (Nat.le_refl _), World.frozen?_alloc_new w vs e o⟩⟩⟩⟩ ?_, ?_, Mem.le_refl K, place_le _ _ _, by simp⟩
        · rintro b ⟨rfl, _⟩ i h' hi ho
          have := (owns_lt (hsr.obj i h' hi) ho).1
          simp at this
        · have hlen : (H ++ [HO.tok s 0]).length = H.length + 1 := by simp
          rw [hlen]
          refine .tsl _ _ _ (.sl .any [] ⟨w.heap.size, 0, none⟩ m 0 (fun _ _ => undef) (by simp) (by simp) (Nat.zero_le _) (fun i hi => by simp at hi) (fun i j hi => by simp at hi) (fun i j hi => by simp at hi)) (by omega) (by rw [place_same]; exact Nat.le_refl _) (by rw [place_same]; exact fun _ => rfl)
      · contradiction
    · contradiction
  · contradiction

theorem ldB_sound {t : TypeId} {x r : AV} {vx : Value} {H' : List HO} (h : ldB P H t x = some (r, H')) (hsr : SR X K ι H w) (hx : RelA K ι H.length x vx) :
    ∃ v w', (Instr.loadAt t vx).run P w = .ok v w' ∧ Left X K ι H.length H' r v w' := by
  unfold ldB at h
  split at h
  · rename_i id off
    split at h
    · rename_i cs hid
      split at h
      · rename_i y hy
        simp only [Option.some.injEq, Prod.mk.injEq] at h
        obtain ⟨rfl, rfl⟩ := h
        obtain ⟨h1, vs, ty, fz, h2, h3, h4, h5, h6⟩ := hsr.obj id _ hid
        cases hx with
        | ptr _ _ hi =>
          obtain ⟨u, hu, hr⟩ := load_sound (P := P) (K := K) (ι := ι) (n := H.length) (a := ⟨(ι id).block, 0, none⟩) (val := fun j => vs.getD j undef) (w := w) hy (fun j hj => by
            rw [Addr.add_mk, Nat.zero_add]
            rw [cell_of_row w _ _ vs ty fz h2]
            simp [Array.getD, h3, hj]) h5
          refine ⟨u, w, ?_, Left.of_eq hsr hr⟩
          rw [Addr.add_mk, Nat.zero_add] at hu
          simpa [Instr.loadAt, Instr.sureAddr] using hu
      · contradiction
    · contradiction
  · contradiction

theorem stB_sound {t : TypeId} {x y r : AV} {vx vy : Value} {H' : List HO} (h : stB P H t x y = some (r, H')) (hsr : SR X K ι H w) (hx : RelA K ι H.length x vx) (hy : RelA K ι H.length y vy) :
    ∃ w', (Instr.storeAt t vx vy).run P w = .ok () w' ∧ Left X K ι H.length H' r undef w' := by
  unfold stB at h
  split at h
  · rename_i id off vc hvc
    split at h
    · rename_i hsz
      split at h
      · rename_i H'' hst
        simp only [Option.some.injEq, Prod.mk.injEq] at h
        obtain ⟨rfl, rfl⟩ := h
        obtain ⟨q1, q2⟩ := cellsA_rel hy hvc
        cases hx with
        | ptr _ _ hi =>
          obtain ⟨w', ι', hrun, g1, g2, g3⟩ := stA_sound (P := P) (vs := vy.cells.toList) hst hsr (by simpa using q1) (fun i hi => by rw [getD_toList]; exact q2 i hi)
          refine ⟨w', ?_, K, ι', g1, .d _ _ (.tup _ _ rfl (fun i hi => by simp at hi)), Mem.le_refl K, g2, by omega⟩
          simp only [Instr.storeAt, Instr.sureAddr, Sem.run_bind, Sem.run_pure, Result.andThen_ok, storeVar, run_sizeOf' hsz, q1, ne_eq, not_true_eq_false, if_false]
          exact hrun
      · contradiction
    · contradiction
  · contradiction

theorem bytesOf_len : ∀ {es : List (List DV)} {l : List UInt8}, bytesOf es = some l → es.length = l.length
  | [], l, h => by simp [bytesOf] at h; subst h; rfl
  | c :: r, l, h => by
    obtain ⟨m, l', rfl, hl2, rfl⟩ := bytesOf_cons h
    simp [bytesOf_len hl2]

theorem cvH_sound {s d : TypeId} {x r : AV} {vx : Value} {H' : List HO} (h : cvH P H s d x = some (r, H')) (hsr : SR X K ι H w) (hx : RelA K ι H.length x vx) :
    ∃ v w', (convert s d vx).run P w = .ok v w' ∧ Left X K ι H.length H' r v w' := by
  unfold cvH at h
  split at h
  · rename_i e id off len cap hs hd
    split at h
    · rename_i cs hk hid
      split at h
      · rename_i hle
        split at h
        · rename_i ds hds
          split at h
          · rename_i l hl
            simp only [Option.some.injEq, Prod.mk.injEq] at h
            obtain ⟨rfl, rfl⟩ := h
            obtain ⟨h1, vs, ty, fz, h2, h3, h4, h5, h6⟩ := hsr.obj id _ hid
            obtain ⟨d1, d2⟩ := allD_get hds
            have hlen : ds.length = len := by rw [d1]; simp; omega
            cases hx with
            | bsl _ _ _ _ hi =>
              -- the cells, as elements of a slice that is known
              have hrel : Rel (kAdd K (ι id).block off (off + len) vs) (.sl .any (ds.map fun d => [d])) (.slice (some ⟨(ι id).block, off, none⟩) len (max cap len)) := by
                have hr := rel_row (K := kAdd K (ι id).block off (off + len) vs) (es := ds.map fun d => [d]) (sz := 1) (b := (ι id).block) (o := off) (cap := max cap len) (vs := vs) (st := .any) (by simp) (by simp) (by simp; omega)
                  (szOk_map _ _ (fun _ => rfl)) (fun q hq1 hq2 => by
                    unfold kAdd
                    simp only [List.length_map, Nat.mul_one, hlen] at hq2
                    rw [if_pos ⟨rfl, rfl, hq1, hq2⟩]) (fun i j hi hj => by
                    have hi' : i < len := by simpa [hlen] using hi
                    obtain rfl : j = 0 := by omega
                    rw [getD_map' (fun d => [d]) ds i .nilp [] (by omega)]
                    simp only [List.getD_cons_zero, Nat.mul_one, Nat.add_zero]
                    have := h5 (off + i) (by omega)
                    have e1 := d2 i (by simp; omega)
                    rw [getD_take_drop _ _ _ _ _ hi'] at e1
                    rw [e1] at this
                    have hle' : Mem.le K (kAdd K (ι id).block off (off + len) vs) := fun a u hau => by
                      unfold kAdd
                      rw [if_neg]; · exact hau
                      rintro ⟨c1, c2, c3, c4⟩
                      obtain ⟨b', o', s'⟩ := a
                      simp only at c1 c2
                      subst c1; subst c2
                      rw [h6] at hau; contradiction
                    exact this.get.mono hle')
                simpa [hlen] using hr
              have hag : Agree (kAdd K (ι id).block off (off + len) vs) w := fun a u hau => by
                unfold kAdd at hau
                split at hau
                · rename_i hcnd
                  obtain ⟨c1, c2, c3, c4⟩ := hcnd
                  obtain ⟨b', o', s'⟩ := a
                  simp only at c1 c2 c3 c4
                  subst c1; subst c2
                  simp only [Option.some.injEq] at hau; subst hau
                  rw [cell_of_row w _ _ vs ty fz h2]
                  simp [Array.getD, show o' < vs.size from by omega]
                · exact hsr.agree a u hau
              have hrun := bytes_run (P := P) (tk_slice hs) (tk_string hd) (tk_int hk) hrel hl hag
              refine ⟨_, w, ?_, Left.of_eq hsr (.d _ _ (.str l))⟩
              have : (convert s d (.slice (some ⟨(ι id).block, off, none⟩) len cap)).run P w = (convert s d (.slice (some ⟨(ι id).block, off, none⟩) len (max cap len))).run P w := by
                simp only [convert, Sem.run_bind, run_underlying (tk_slice hs), run_underlying (tk_string hd), run_underlying (tk_int hk), Result.andThen_ok, Conv.bytesToString]
              rw [this]; exact hrun
          · contradiction
        · contradiction
      · contradiction
    · contradiction
  · contradiction

theorem tkm_map {t kt et : TypeId} (h : tkm P t = some (kt, et)) : P.underlying t = some (.map kt et) := by
  unfold tkm at h
  split at h
  · rename_i k e hk
    simp only [Option.some.injEq, Prod.mk.injEq] at h
    obtain ⟨rfl, rfl⟩ := h
    exact hk
  · contradiction

def putMap (w : World) (b : Nat) (o : Obj) : World := { w with heap := w.heap.setIfInBounds b o }
theorem putMap_same {b : Nat} {o o' : Obj} (h : w.heap[b]? = some o') : (putMap w b o).heap[b]? = some o := by
  have := heap_lt h
  simp [putMap, this]
theorem putMap_other {b c : Nat} {o : Obj} (h : c ≠ b) : (putMap w b o).heap[c]? = w.heap[c]? := by
  simp [putMap, Array.getElem?_setIfInBounds, Ne.symm h]

theorem objOk.putMap {B b : Nat} {pl : Pl} {q : HO} {o' : Obj} (ho : objOk K ι n w B pl q) (hb : ¬ owns q pl b) : objOk K ι n (putMap w b o') B pl q := by
  cases q with
  | box ds =>
    obtain ⟨h1, vs, ty, fz, h2, h3, h4, h5, h6⟩ := ho
    have hne : pl.block ≠ b := fun e => hb e.symm
    have he : (Sx.putMap w b o').heap[pl.block]? = w.heap[pl.block]? := putMap_other hne
    exact ⟨h1, vs, ty, fz, by rw [he]; exact h2, h3, fun o => by rw [frozen_congr he]; exact h4 o, h5, h6⟩
  | tok sz m =>
    obtain ⟨h1, h2⟩ := ho
    refine ⟨h1, h2.imp id ?_⟩
    rintro ⟨a, cap, e, hle, hs⟩
    refine ⟨a, cap, e, hle, fun hlt => ?_⟩
    have hne : pl.tb ≠ b := fun e' => hb ⟨e'.symm, a, cap, e, hlt⟩
    have he : (Sx.putMap w b o').heap[pl.tb]? = w.heap[pl.tb]? := putMap_other hne
    obtain ⟨g1, g2, g3, vs, ty, fz, g4, g5, g6⟩ := hs hlt
    exact ⟨g1, g2, g3, vs, ty, fz, by rw [he]; exact g4, g5, fun o ho => by rw [frozen_congr he]; exact g6 o ho⟩
  | dead => trivial
  | mp es =>
    obtain ⟨h1, ents, clock, h2, h3⟩ := ho
    have hne : pl.block ≠ b := fun e => hb e.symm
    exact ⟨h1, ents, clock, by rw [putMap_other hne]; exact h2, h3⟩

theorem str_key (a b : List UInt8) : (Value.string ⟨a.toArray⟩ = Value.string ⟨b.toArray⟩) ↔ a = b := by
  constructor
  · intro h
    simpa using h
  · rintro rfl; rfl

theorem find_rel (k : List UInt8) : ∀ {es : List (List UInt8 × DV)} {l : List MapEntry} (i : Nat), MpRel K es l →
    (mpFind k es = none ∧ Instr.findNow .string (.string ⟨k.toArray⟩) l i = some none ∧ ∀ d v b, Rel K d v → MpRel K (mpPut k d es) (l ++ [⟨.string ⟨k.toArray⟩, v, b⟩])) ∨
    ∃ d j e, mpFind k es = some d ∧ Instr.findNow .string (.string ⟨k.toArray⟩) l i = some (some (i + j, e.val)) ∧ l[j]? = some e ∧ e.key = .string ⟨k.toArray⟩ ∧ Rel K d e.val ∧
      ∀ d v, Rel K d v → MpRel K (mpPut k d es) (l.modify j fun e => { e with key := .string ⟨k.toArray⟩, val := v })
  | [], [], i, _ => .inl ⟨rfl, rfl, fun d v b h => ⟨rfl, h, trivial⟩⟩
  | (k', d') :: r, e :: es, i, ⟨h1, h2, h3⟩ => by
    obtain ⟨q, hq, hiff⟩ := MapKept.sameNow_of_keys (d := .string) (a := .string ⟨k.toArray⟩) (b := e.key) trivial (by rw [h1]; trivial)
    rw [h1, str_key] at hiff
    by_cases hk : k = k'
    · have := hiff.2 hk
      subst this
      subst hk
      refine .inr ⟨d', 0, e, by simp [mpFind], by simp [Instr.findNow, hq], rfl, h1, h2, fun d v hr => ?_⟩
      simp only [mpPut, if_true, List.modify_cons, if_true]
      exact ⟨rfl, hr, h3⟩
    · have : q = false := by cases q with | true => exact absurd (hiff.1 rfl) hk | false => rfl
      subst this
      rcases find_rel k (i + 1) h3 with ⟨g1, g2, g3⟩ | ⟨d, j, e', g1, g2, g3, g4, g5, g6⟩
      · exact .inl ⟨by simp [mpFind, hk, g1], by simp [Instr.findNow, hq, g2], fun d v b hr => by simp only [mpPut, if_neg hk, List.cons_append]; exact ⟨h1, h2, g3 d v b hr⟩⟩
      · refine .inr ⟨d, j + 1, e', by simp [mpFind, hk, g1], by simp [Instr.findNow, hq, g2]; omega, by simpa using g3, g4, g5, fun d v hr => ?_⟩
        simp only [mpPut, if_neg hk]
        have : (e :: es).modify (j + 1) (fun e => { e with key := .string ⟨k.toArray⟩, val := v }) = e :: es.modify j (fun e => { e with key := .string ⟨k.toArray⟩, val := v }) := by simp
        rw [this]
        exact ⟨h1, h2, g6 d v hr⟩

theorem luA_sound {t : TypeId} {x k r : AV} {ok : Bool} {vx vk : Value} {H' : List HO} (h : luA P H t x k ok = some (r, H')) (hsr : SR X K ι H w) (hx : RelA K ι H.length x vx) (hk : RelA K ι H.length k vk) :
    ∃ v w', (Instr.lookup t vx vk ok).run P w = .ok v w' ∧ Left X K ι H.length H' r v w' := by
  unfold luA at h
  split at h
  · rename_i kt et id s htm
    split at h
    · rename_i z es hkt hz hid
      simp only [Option.some.injEq, Prod.mk.injEq] at h
      obtain ⟨rfl, rfl⟩ := h
      obtain ⟨h1, ents, clock, h2, h3⟩ := hsr.obj id _ hid
      have hkg := hk.get
      cases hkg
      cases hx with
      | mp _ hi =>
        have hund := tkm_map htm
        have hus := tk_string hkt
        have hck : ∀ em, (Instr.checkKey em 10000 kt (.string ⟨s.toArray⟩)).run P w = .ok () w := fun em => MapKept.run_checkKey (k := .string ⟨s.toArray⟩) hus trivial em _
        rcases find_rel s 0 h3 with ⟨g1, g2, _⟩ | ⟨d, j, e, g1, g2, _, _, g5, _⟩
        · have hfk := MapKept.run_findKey (w := w) hus g2
          have hrun : (Instr.lookup t (.map (some (ι id).block)) (.string ⟨s.toArray⟩) ok).run P w = .ok (if ok then .tuple #[z, .bool false] else z) w := by
            simp only [Instr.lookup, Sem.run_bind, run_underlying hund, Result.andThen_ok, MapKept.run_getObj_map h2, Sem.run_pure, hck, hfk, run_zero' hz]
          refine ⟨_, w, hrun, Left.of_eq hsr ?_⟩
          rw [g1]
          cases ok with
          | true =>
            refine relA_mkTup rfl fun i hi => ?_
            match i, hi with
            | 0, _ => exact ofV_rel _ _ _ _
            | 1, _ => exact .d _ _ (.bool _)
          | false => exact ofV_rel _ _ _ _
        · have hfk := MapKept.run_findKey (w := w) hus g2
          have hrun : (Instr.lookup t (.map (some (ι id).block)) (.string ⟨s.toArray⟩) ok).run P w = .ok (if ok then .tuple #[e.val, .bool true] else e.val) w := by
            simp only [Instr.lookup, Sem.run_bind, run_underlying hund, Result.andThen_ok, MapKept.run_getObj_map h2, Sem.run_pure, hck, hfk]
          refine ⟨_, w, hrun, Left.of_eq hsr ?_⟩
          rw [g1]
          cases ok with
          | true =>
            refine .d _ _ (.tup _ _ rfl fun i hi => ?_)
            match i, hi with
            | 0, _ => exact g5
            | 1, _ => exact .bool _
          | false => exact .d _ _ g5
    · contradiction
  · contradiction

theorem muA_sound {t : TypeId} {m k x r : AV} {vm vk vx : Value} {H' : List HO} (h : muA P H t m k x = some (r, H')) (hsr : SR X K ι H w) (hm : RelA K ι H.length m vm) (hk : RelA K ι H.length k vk) (hx : RelA K ι H.length x vx) :
    ∃ w', (Instr.mapUpdate t vm vk vx).run P w = .ok () w' ∧ Left X K ι H.length H' r undef w' := by
  unfold muA at h
  split at h
  · rename_i kt et id s d htm
    split at h
    · rename_i es hkt hid
      simp only [Option.some.injEq, Prod.mk.injEq] at h
      obtain ⟨rfl, rfl⟩ := h
      obtain ⟨h1, ents, clock, h2, h3⟩ := hsr.obj id _ hid
      have hkg := hk.get
      have hxg := hx.get
      cases hkg
      cases hm with
      | mp _ hi =>
        have hund := tkm_map htm
        have hus := tk_string hkt
        have hck : ∀ em, (Instr.checkKey em 10000 kt (.string ⟨s.toArray⟩)).run P w = .ok () w := fun em => MapKept.run_checkKey (k := .string ⟨s.toArray⟩) hus trivial em _
        have fin : ∀ (ents' : Array MapEntry) (clock' : Nat), MpRel K (mpPut s d es) ents'.toList → Left X K ι H.length (H.set id (.mp (mpPut s d es))) (.d (.tup [])) undef (putMap w (ι id).block (.map ents' clock')) := by
          intro ents' clock' hrel
          have hag : Agree K (putMap w (ι id).block (.map ents' clock')) := fun a v e => by
            have hw := hsr.agree a v e
            have hne : a.block ≠ (ι id).block := by
              intro hc
              unfold World.cell? at hw
              rw [hc, h2] at hw
              simp at hw
            unfold World.cell? at hw ⊢
            rw [putMap_other hne]
            exact hw
          have hbe : Below X.w0.heap.size X.w0 (putMap w (ι id).block (.map ents' clock')) := hsr.below.trans ⟨rfl, rfl, rfl, by simp [putMap], fun k hk => putMap_other (by omega)⟩
          obtain ⟨s1, s2⟩ := hsr.set hid (ι id) (.mp (mpPut s d es)) (Mem.le_refl K) hag hbe hsr.kold ⟨rfl, Nat.le_refl _, fun _ => rfl⟩
            (fun i q hne hq => (hsr.obj i q hq).putMap (fun ho => hne (hsr.sep i id q _ _ hq hid ho rfl)))
            ⟨h1, ents', clock', putMap_same h2, hrel⟩ (fun b hb i q hne hq ho => hne (hsr.sep i id q (.mp es) b hq hid ho hb))
          exact ⟨K, _, s1, .d _ _ (.tup _ _ rfl fun i hi => by simp at hi), Mem.le_refl K, s2, by simp⟩
        rcases find_rel s 0 h3 with ⟨g1, g2, g3⟩ | ⟨d', j, e, g1, g2, g3, g4, g5, g6⟩
        · have hfk := MapKept.run_findKey (w := w) hus g2
          have hrun : (Instr.mapUpdate t (.map (some (ι id).block)) (.string ⟨s.toArray⟩) vx).run P w = .ok () (putMap w (ι id).block (.map (ents.push { key := .string ⟨s.toArray⟩, val := vx, born := clock }) (clock + 1))) := by
            simp only [Instr.mapUpdate, Sem.run_bind, run_underlying hund, Result.andThen_ok, MapKept.run_getObj_map h2, Sem.run_pure, hck, hfk, MapKept.run_setObj_map _ h2]
            rfl
          exact ⟨_, hrun, fin _ _ (by rw [Array.toList_push]; exact g3 d vx clock hxg)⟩
        · have hfk := MapKept.run_findKey (w := w) hus g2
          have hkey : ((ents[0 + j]?).map (·.key)).getD (.string ⟨s.toArray⟩) = .string ⟨s.toArray⟩ := by
            rw [Nat.zero_add]
            have : ents[j]? = some e := by simpa using g3
            rw [this]; exact g4
          have hst : (Instr.keyThatStays (.string ⟨s.toArray⟩) (.string ⟨s.toArray⟩)).run P w = .ok (.string ⟨s.toArray⟩) w := by
            have : Instr.sameBits 10000 (.string ⟨s.toArray⟩) (.string ⟨s.toArray⟩) = true := by
              have e : Instr.sameBits 10000 (.string ⟨s.toArray⟩) (.string ⟨s.toArray⟩) = ((⟨s.toArray⟩ : ByteArray) == ⟨s.toArray⟩) := by unfold Instr.sameBits; rfl
              rw [e]; exact (MapKept.bytes_beq _ _).2 rfl
            unfold Instr.keyThatStays
            rw [if_pos this]
            rfl
          have hrun : (Instr.mapUpdate t (.map (some (ι id).block)) (.string ⟨s.toArray⟩) vx).run P w = .ok () (putMap w (ι id).block (.map (ents.modify (0 + j) fun e => { e with key := .string ⟨s.toArray⟩, val := vx }) clock)) := by
            simp only [Instr.mapUpdate, Sem.run_bind, run_underlying hund, Result.andThen_ok, MapKept.run_getObj_map h2, Sem.run_pure, hck, hfk, hkey, hst, MapKept.run_setObj_map _ h2]
            rfl
          refine ⟨_, hrun, fin _ _ ?_⟩
          rw [Nat.zero_add, Array.toList_modify]
          exact g6 d vx hxg
    · contradiction
  · contradiction

theorem newMap_left (hsr : SR X K ι H w) : Left X K ι H.length (H ++ [.mp []]) (.mp H.length) (.map (some w.heap.size)) (w.alloc (.map #[] 0)) := by
  have hal : SR X K ι H (w.alloc (.map #[] 0)) := hsr.ext ⟨Mem.le_refl K, fun _ _ => rfl, agree_alloc hsr.agree _, (Below.refl _ _).alloc (Nat.le_refl _) _⟩
  refine ⟨K, _, hsr.push hal ⟨w.heap.size, undef, 0, 0⟩ (.mp []) ⟨hsr.size, #[], 0, heap_alloc_new w _, trivial⟩ ?_, ?_, Mem.le_refl K, place_le _ _ _, by simp⟩
  · intro b hb i h' hi ho
    simp only [owns] at hb; subst hb
    have := (owns_lt (hsr.obj i h' hi) ho).1
    omega
  · have := RelA.mp (K := K) (ι := place ι H.length ⟨w.heap.size, undef, 0, 0⟩) (n := (H ++ [HO.mp []]).length) H.length (by simp)
    rwa [place_same] at this

theorem hst_sound {e : Env} {o : Oper} {r : AV} {H' : List HO} {ρ : Operand → Value} (h : hst P G e H o.op = some (r, H')) (hsr : SR X K ι H w) (hρ : ∀ x, RelA K ι H.length (ev G e x) (ρ x)) :
    ∃ nx v w', (execOp ρ o).run P w = .ok nx w' ∧ nextV nx = some v ∧ Left X K ι H.length H' r v w' := by
  have wrap : ∀ {s : Sem Value} {v : Value} {w' : World}, s.run P w = .ok v w' → ((do pure (.value (← s))) : Sem Next).run P w = .ok (.value v) w' := fun hs => by simp [hs]
  obtain ⟨dst, op, T, pos, after, guard⟩ := o
  simp only at h
  unfold hst at h
  split at h
  · rename_i t
    split at h
    · rename_i z hz
      simp only [Option.some.injEq, Prod.mk.injEq] at h
      obtain ⟨rfl, rfl⟩ := h
      refine ⟨_, _, _, wrap (v := .pointer (some ⟨w.heap.size, 0, none⟩)) (w' := w.alloc (.cells z.cells t)) ?_, rfl, Left.newBox hsr _ t _ (by simp [ofVL_length]) (fun j hj => ?_) ?_⟩
      · simp [Instr.alloc, run_zero' hz, newVar, newRow]
      · rw [ofVL_length] at hj
        rw [← getD_toList]
        exact ofVL_rel K ι H.length _ _ hj
      · have := RelA.ptr (K := K) (ι := place ι H.length ⟨w.heap.size, undef, 0, 0⟩) (n := H.length + 1) H.length 0 (by omega)
        rwa [place_same] at this
    · contradiction
  · rename_i t x
    split at h
    · rename_i cs hcs
      simp only [Option.some.injEq, Prod.mk.injEq] at h
      obtain ⟨rfl, rfl⟩ := h
      obtain ⟨q1, q2⟩ := cellsA_rel (hρ x) hcs
      refine ⟨_, _, _, wrap (v := .pointer (some ⟨w.heap.size, 0, none⟩)) (w' := w.alloc (.cells (ρ x).cells t)) ?_, rfl, Left.newBox hsr _ t _ q1 q2 ?_⟩
      · simp [Instr.box, newVar, newRow]
      · have := RelA.ptr (K := K) (ι := place ι H.length ⟨w.heap.size, undef, 0, 0⟩) (n := H.length + 1) H.length 0 (by omega)
        rwa [place_same] at this
    · contradiction
  · rename_i t x
    obtain ⟨v, w', hrun, hl⟩ := ldB_sound h hsr (hρ x)
    exact ⟨_, v, w', wrap hrun, rfl, hl⟩
  · rename_i t x y
    obtain ⟨w', hrun, hl⟩ := stB_sound h hsr (hρ x) (hρ y)
    exact ⟨.skip, _, w', by simp [execOp, hrun], rfl, hl⟩
  · rename_i t l c
    split at h
    · rename_i hz
      cases l with
      | const lv =>
        cases lv with
        | int k0 n0 =>
          simp only [isZ, decide_eq_true_eq] at hz
          subst hz
          have hlr := hρ (.const (.int k0 0))
          have hlr' := hlr.get
          have : ρ (.const (.int k0 0)) = .int k0 0 := by generalize ρ (.const (.int k0 0)) = u at hlr'; cases hlr'; rfl
          obtain ⟨v, w', hrun, hl⟩ := mkZ_sound (k0 := k0) h hsr (hρ c)
          rw [← this] at hrun
          exact ⟨_, v, w', wrap hrun, rfl, hl⟩
        | _ => simp [isZ] at hz
      | _ => simp [isZ] at hz
    · obtain ⟨v, w', hrun, hl⟩ := mkA_sound h hsr (hρ l) (hρ c)
      exact ⟨_, v, w', wrap hrun, rfl, hl⟩
  · rename_i t len parts
    obtain ⟨v, w', hrun, hl⟩ := bsA_sound (vparts := parts.map fun p => (p.1, ρ p.2)) h hsr (by simp) (by
      intro i x y hx hy
      simp only [List.getElem?_map, Option.map_eq_some_iff, Array.toList_map] at hx hy
      obtain ⟨p, hp, rfl⟩ := hx
      obtain ⟨q, hq, rfl⟩ := hy
      rw [hp] at hq
      simp only [Option.some.injEq] at hq; subst hq
      exact ⟨rfl, hρ _⟩)
    exact ⟨_, v, w', wrap hrun, rfl, hl⟩
  · rename_i s d x
    obtain ⟨v, w', hrun, hl⟩ := cvH_sound h hsr (hρ x)
    exact ⟨_, v, w', wrap hrun, rfl, hl⟩
  · rename_i s x tS tX
    obtain ⟨v, w', hrun, hl⟩ := apA_sound (ty := T) h hsr (hρ s) (hρ x)
    refine ⟨.value v, v, w', ?_, rfl, hl⟩
    have hm : Array.map ρ ⟨[s, x]⟩ = #[ρ s, ρ x] := by simp
    simp only [execOp, resolve, Sem.run_bind, Sem.run_pure, Result.andThen_ok, invoke, builtin, hm, hrun]
  · rename_i t
    simp only [Option.some.injEq, Prod.mk.injEq] at h
    obtain ⟨rfl, rfl⟩ := h
    exact ⟨_, _, _, wrap (v := .map (some w.heap.size)) (w' := w.alloc (.map #[] 0)) rfl, rfl, newMap_left hsr⟩
  · rename_i t x k ok
    obtain ⟨v, w', hrun, hl⟩ := luA_sound h hsr (hρ x) (hρ k)
    exact ⟨_, v, w', wrap hrun, rfl, hl⟩
  · rename_i t m k x
    obtain ⟨w', hrun, hl⟩ := muA_sound h hsr (hρ m) (hρ k) (hρ x)
    exact ⟨.skip, _, w', by simp [execOp, hrun], rfl, hl⟩
  · contradiction

end
end Go.Proofs.YtjmldlknegbimaaDoor.Sx
