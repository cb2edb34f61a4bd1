/- Code at abstract values is sound; contracts out of bodies. Own library, part 14. -/
import Derived.Test.YtjmldlknegbimaaDoorA13
set_option linter.unusedVariables false
set_option linter.unusedSimpArgs false
namespace Go.Proofs.YtjmldlknegbimaaDoor.Sx
open Go Go.RowKit

section
variable {P : Program} {G : Gl} {X : Cxt} {nt n0 : Nat} {K : Mem} {ι : Nat → Pl} {w : World} {e : Env} {H : List HO}

theorem draw_sound (hm : P.follows .mixedOrders = true) {id : Nat} {ops : Array Oper} (hd : ∀ (j : Nat) (o' : Oper) (t : Tmp), ops[j]? = some o' → o'.dst = some t → t < nt) {Q : Exit → Env → List HO → Prop} {a : Act}
    (h : trW P G ops ops.toList [] (fun cs e H => drawOk ops cs = true ∧ Q .normal e H) e H) (hsr : SR X K ι H w) (hG : GOk K G) (he : REnv K ι H.length nt e a) : (Code.region id ops true).wp P (Holds X G nt Q) a w := by
  obtain ⟨env, Hs, val, cl, h1, h2, h3, h4, h5⟩ := trW_ran ops _ ops.toList 0 [] e H (by simp) (by simp) h
  have s : Setup P G ops e H ([] ++ (List.range' 0 ops.toList.length).map cl) env Hs val cl := {
    e0 := h1
    h0 := h2
    ran := fun i hi => h3 i (Nat.zero_le _) hi
    hcs := fun i hi => by simp [List.getD_eq_getElem?_getD, hi]
    facts := drawOk_facts h4 }
  refine wp_region_any hm ?_
  refine wpAny_mid (X := X) s hd (Q1 := Holds X G nt Q) (fun a w K ι g1 g2 g3 => ⟨_, _, K, ι, h5, g1, g2, g3⟩) _ _ a w.drew (by simp) ?_ ?_
  · refine Nat.le_trans (List.length_filter_le _ _) (by simp)
  · have hL : Lof (Array.replicate ops.size false) = fun _ => False := by
      funext i
      simp only [Lof, eq_iff_iff, iff_false, Array.getD_eq_getD_getElem?, Array.getElem?_replicate]
      split <;> simp
    refine ⟨fun i o _ hi => by rw [hL] at hi; exact hi.elim, K, ι, 0, Nat.zero_le _, fun j hj => by omega, fun j _ _ _ hj => by rw [hL] at hj; exact hj, by rw [h2]; exact hsr.drew, hG, ?_⟩
    rw [h2]
    have : envL ops e val (Lof (Array.replicate ops.size false)) = e := by
      funext t
      rw [envL_none]
      intro i hi
      rw [hL] at hi; exact hi.elim
    rw [this]
    exact he

theorem wp_loop_ind {c : Code} {Q : Exit → Act → World → Prop} (J : Nat → Act → World → Prop)
    (round : ∀ n a w, J n a w → c.wp P (Exit.then (fun a' w' => ∃ m, m < n ∧ J m a' w') Q) a w) {n : Nat} {a : Act} {w : World} (h0 : J n a w) : (Code.loop c).wp P Q a w := by
  intro b k cs
  have key : ∀ n a w, J n a w → ∃ e a' w', Q e a' w' ∧ Arrives P (lone (b.at a (.code c :: .inLoop c :: k)) cs w) b k cs e a' w' := by
    intro n
    induction n using Nat.strongRecOn with
    | _ n ih =>
      intro a w hJ
      obtain ⟨e, a₁, w₁, hq, harr⟩ := round n a w hJ b (.inLoop c :: k) cs
      cases e with
      | normal =>
        obtain ⟨m, hlt, hJ₁⟩ := hq
        obtain ⟨e₂, a₂, w₂, hq₂, harr₂⟩ := ih m hlt a₁ w₁ hJ₁
        exact ⟨e₂, a₂, w₂, hq₂, .of_steps (Steps.trans harr (.one step_inLoop)) harr₂⟩
      | exit id => exact ⟨_, a₁, w₁, hq, .pass (x := .inLoop c) rfl (fun _ _ => .inl (by simp)) harr⟩
      | goto l => exact ⟨_, a₁, w₁, hq, .pass (x := .inLoop c) rfl (fun _ _ => .inl (by simp)) harr⟩
      | ret => exact ⟨_, a₁, w₁, hq, .pass (x := .inLoop c) rfl (fun _ _ => .inl (by simp)) harr⟩
      | panic ch => exact ⟨_, a₁, w₁, hq, .pass (x := .inLoop c) rfl (fun _ _ => .inl (by simp)) harr⟩
      | outgrown => exact ⟨_, a₁, w₁, hq, .pass (x := .inLoop c) rfl (fun _ _ => .inl (by simp)) harr⟩
  obtain ⟨e, a', w', hq, harr⟩ := key n a w h0
  exact ⟨e, a', w', hq, .of_steps (.one step_loop) harr⟩

theorem Weak.sound {e' : Env} {H' : List HO} {a : Act} (hw : Weak n0 e H e' H') (hn : X.n0 = n0) (hsr : SR X K ι H w) (he : REnv K ι H.length nt e a) : SR X K ι H' w ∧ REnv K ι H'.length nt e' a := by
  have hget : ∀ (i : Nat) (q : HO), H'[i]? = some q → q = .dead ∨ (H[i]? = some q ∧ ∀ cs, q = .box cs → AV.ltL H'.length cs = true) := fun i q hq => by
    have hi := (List.getElem?_eq_some_iff.1 hq).1
    rcases hw.obj i hi with h | ⟨h1, h2⟩
    · rw [h] at hq; simp at hq; exact .inl hq.symm
    · rw [hq] at h1; exact .inr ⟨h1.symm, fun cs hcs => h2 cs (by rw [← h1, hcs])⟩
  refine ⟨{ hsr with n0 := by rw [hn]; exact hw.len, obj := ?_, sep := ?_ }, ⟨he.defers, he.size, fun t => ?_⟩⟩
  · intro i q hq
    rcases hget i q hq with rfl | ⟨h1, h2⟩
    · trivial
    · have := hsr.obj i q h1
      cases q with
      | box cs =>
        obtain ⟨g1, vs, ty, fz, g2, g3, g4, g5, g6⟩ := this
        exact ⟨g1, vs, ty, fz, g2, g3, g4, fun j hj => (g5 j hj).lt (AV.ltL_get (h2 cs rfl) j hj), g6⟩
      | tok sz m => exact this
      | dead => trivial
      | mp es => exact this
  · intro i j a b k ha hb oa ob
    rcases hget i a ha with rfl | ⟨h1, _⟩
    · exact oa.elim
    · rcases hget j b hb with rfl | ⟨h2, _⟩
      · exact ob.elim
      · exact hsr.sep i j a b k h1 h2 oa ob
  · rcases hw.env t with h | ⟨h1, h2⟩
    · rw [h]; exact .junk _
    · rw [h1]; exact (he.rel t).lt h2

theorem Ghost.sound {e' : Env} {H' : List HO} {a : Act} (h : Ghost e H e' H') : ∀ {ι : Nat → Pl}, SR X K ι H w → REnv K ι H.length nt e a → ∃ ι', SR X K ι' H' w ∧ REnv K ι' H'.length nt e' a := by
  induction h with
  | refl e H => intro ι h1 h2; exact ⟨ι, h1, h2⟩
  | step e H t st es z e' H' h hst _ ih =>
    intro ι h1 h2
    have hr := h2.rel t
    rw [h] at hr
    obtain ⟨p, g1, g2, g3⟩ := h1.ghostTok z hst hr.get
    refine ih g1 ⟨h2.defers, h2.size, fun u => ?_⟩
    have hlen : (H ++ [HO.tok z es.length]).length = H.length + 1 := by simp
    rw [hlen]
    unfold upd
    split
    · rename_i hu; subst hu; exact g2
    · exact (h2.rel u).mono (Mem.le_refl K) (by omega) g3

theorem wpc_sound (hm : P.follows .mixedOrders = true) : ∀ (c : Code) (Q : Exit → Env → List HO → Prop) (e : Env) (H : List HO), dstOk nt c = true → wpc P G n0 c Q e H → AWP P G nt n0 c Q e H := by
  intro c
  induction c with
  | skip => intro Q e H _ h X K ι a w _ hsr hG he; exact wp_skip ⟨e, H, K, ι, h, hsr, hG, he⟩
  | label l => intro Q e H _ h X K ι a w _ hsr hG he; exact wp_label ⟨e, H, K, ι, h, hsr, hG, he⟩
  | ret => intro Q e H _ h X K ι a w _ hsr hG he; exact wp_ret ⟨e, H, K, ι, h, hsr, hG, he⟩
  | exit id => intro Q e H _ h X K ι a w _ hsr hG he; exact wp_exit ⟨e, H, K, ι, h, hsr, hG, he⟩
  | seq x y ihx ihy =>
    intro Q e H hd h X K ι a w hn hsr hG he
    simp only [dstOk, Bool.and_eq_true] at hd
    rw [wpc] at h
    refine wp_seq (wp_mono (ihx _ e H hd.1 h X K ι a w hn hsr hG he) ?_)
    rintro en a' w' ⟨e', H', K', ι', hq, g1, g2, g3⟩
    cases en with
    | normal => exact ihy Q e' H' hd.2 hq X K' ι' a' w' hn g1 g2 g3
    | exit id => exact ⟨e', H', K', ι', hq, g1, g2, g3⟩
    | goto l => exact ⟨e', H', K', ι', hq, g1, g2, g3⟩
    | ret => exact ⟨e', H', K', ι', hq, g1, g2, g3⟩
    | panic ch => exact ⟨e', H', K', ι', hq, g1, g2, g3⟩
    | outgrown => exact ⟨e', H', K', ι', hq, g1, g2, g3⟩
  | cond c x y ihx ihy =>
    intro Q e H hd h X K ι a w hn hsr hG he
    simp only [dstOk, Bool.and_eq_true] at hd
    rw [wpc] at h
    split at h
    · rename_i t hc
      have hr := ev_rel (G := G) hG he.rel c
      rw [hc] at hr
      have hg := hr.get
      generalize hv : a.eval c = v at hg
      cases hg
      cases t with
      | true => exact wp_cond_true hv (ihx Q e H hd.1 h X K ι a w hn hsr hG he)
      | false => exact wp_cond_false hv (ihy Q e H hd.2 h X K ι a w hn hsr hG he)
    · exact h.elim
  | block id x ih =>
    intro Q e H hd h X K ι a w hn hsr hG he
    simp only [dstOk] at hd
    rw [wpc] at h
    refine wp_block (wp_mono (ih _ e H hd h X K ι a w hn hsr hG he) ?_)
    rintro en a' w' ⟨e', H', K', ι', hq, g1, g2, g3⟩
    cases en with
    | normal => exact ⟨e', H', K', ι', hq, g1, g2, g3⟩
    | exit id' =>
      simp only [Exit.inBlock]
      simp only at hq
      split
      · rename_i hid; rw [if_pos hid] at hq; exact ⟨e', H', K', ι', hq, g1, g2, g3⟩
      · rename_i hid; rw [if_neg hid] at hq; exact ⟨e', H', K', ι', hq, g1, g2, g3⟩
    | goto l => exact ⟨e', H', K', ι', hq, g1, g2, g3⟩
    | ret => exact ⟨e', H', K', ι', hq, g1, g2, g3⟩
    | panic ch => exact ⟨e', H', K', ι', hq, g1, g2, g3⟩
    | outgrown => exact ⟨e', H', K', ι', hq, g1, g2, g3⟩
  | loop x ih =>
    intro Q e H hd h X K ι a w hn hsr hG he
    simp only [dstOk] at hd
    rw [wpc] at h
    obtain ⟨e0, H0, I, n, hgh, h0, hround⟩ := h
    obtain ⟨ι, hsr, he⟩ := hgh.sound hsr he
    refine wp_loop_ind (fun n a w => ∃ e H K ι, I n e H ∧ SR X K ι H w ∧ GOk K G ∧ REnv K ι H.length nt e a) ?_ ⟨e0, H0, K, ι, h0, hsr, hG, he⟩
    rintro n a w ⟨e, H, K, ι, hI, hsr, hG, he⟩
    refine wp_mono (ih _ e H hd (hround n e H hI) X K ι a w hn hsr hG he) ?_
    rintro en a' w' ⟨e', H', K', ι', hq, g1, g2, g3⟩
    cases en with
    | normal =>
      obtain ⟨m, e3, H3, hlt, hweak, hI3⟩ := hq
      obtain ⟨q1, q2⟩ := hweak.sound hn g1 g3
      exact ⟨m, hlt, e3, H3, K', ι', hI3, q1, g2, q2⟩
    | exit id => exact ⟨e', H', K', ι', hq, g1, g2, g3⟩
    | goto l => exact ⟨e', H', K', ι', hq, g1, g2, g3⟩
    | ret => exact ⟨e', H', K', ι', hq, g1, g2, g3⟩
    | panic ch => exact ⟨e', H', K', ι', hq, g1, g2, g3⟩
    | outgrown => exact ⟨e', H', K', ι', hq, g1, g2, g3⟩
  | region id ops draw =>
    intro Q e H hd h X K ι a w hn hsr hG he
    have hdo : ∀ (j : Nat) (o' : Oper) (t : Tmp), ops[j]? = some o' → o'.dst = some t → t < nt := by
      intro j o' t hj ht
      simp only [dstOk, List.all_eq_true] at hd
      have := hd o' (by simpa using Array.mem_of_getElem? hj)
      rw [ht] at this
      simpa using this
    cases draw with
    | true =>
      rw [wpc] at h
      exact draw_sound hm hdo h hsr hG he
    | false =>
      rw [wpc] at h
      refine wp_region ?_
      have := opsW_sound (X := X) ops hdo ops.toList 0 _ e H K ι a w (by simp) h hsr hG he (Holds X G nt Q) (fun e H K ι a w hq g1 g2 g3 => ⟨e, H, K, ι, hq, g1, g2, g3⟩)
      simpa [List.range_eq_range'] using this
  | rangeFunc f ps x y => intro Q e H _ h; simp only [wpc] at h
  | scope x => intro Q e H _ h; simp only [wpc] at h
  | goto l => intro Q e H _ h; simp only [wpc] at h
  | refuse why => intro Q e H _ h; simp only [wpc] at h

/-! Results -/
def retA (P : Program) (H : List HO) (e : Env) : ResultVar → Option AV
  | .tmp t => some (e t)
  | .cell a ty =>
    match e a with
    | .ptr id off =>
      match H[id]? with
      | some (.box cs) => partA P ty cs off
      | _ => none
    | _ => none

def retL (P : Program) (H : List HO) (e : Env) : List ResultVar → Option (List AV)
  | [] => some []
  | r :: rs =>
    match retA P H e r, retL P H e rs with
    | some x, some xs => some (x :: xs)
    | _, _ => none

def resA (P : Program) (H : List HO) (e : Env) (rs : List ResultVar) : Option AV :=
  match retL P H e rs with
  | some [x] => some x
  | some xs => some (mkTup xs)
  | none => none

def resF (tmps : Array Value) : ResultVar → Sem Value
  | .tmp t => pure (tmps.getD t undef)
  | .cell p t => do loadVar t (← asAddr (tmps.getD p undef))

theorem results_eq (fn : Func) (tmps : Array Value) : results fn tmps = (do
    let vs ← fn.results.mapM (resF tmps)
    pure (if h : vs.size = 1 then vs[0] else .tuple vs)) := by
  have : resF tmps = (fun
    | .tmp t => pure (tmps.getD t undef)
    | .cell a t => do loadVar t (← asAddr (tmps.getD a undef))) := by
    funext r; cases r <;> rfl
  rw [this]
  rfl

theorem retA_sound {a : Act} {r : ResultVar} {x : AV} (h : retA P H e r = some x) (hsr : SR X K ι H w) (he : REnv K ι H.length nt e a) :
    ∃ v, (resF a.tmps r).run P w = .ok v w ∧ RelA K ι H.length x v := by
  cases r with
  | tmp t =>
    simp only [retA, Option.some.injEq] at h; subst h
    exact ⟨_, rfl, he.rel t⟩
  | cell p ty =>
    simp only [retA] at h
    split at h
    · rename_i id off hp
      split at h
      · rename_i cs hid
        obtain ⟨h1, vs, tyy, fz, h2, h3, h4, h5, h6⟩ := hsr.obj id _ hid
        have hr := he.rel p
        rw [hp] at hr
        simp only [resF]
        generalize a.tmps.getD p undef = v at hr
        cases hr with
        | ptr _ _ hi =>
          obtain ⟨u, hu, hru⟩ := load_sound (P := P) (K := K) (ι := ι) (n := H.length) (a := ⟨(ι id).block, 0, none⟩) (val := fun j => vs.getD j undef) (w := w) h (fun j hj => by
            rw [Addr.add_mk, Nat.zero_add]
            rw [cell_of_row w _ _ vs tyy fz h2]
            simp [Array.getD, h3, hj]) h5
          rw [Addr.add_mk, Nat.zero_add] at hu
          exact ⟨u, by simpa [asAddr] using hu, hru⟩
      · contradiction
    · contradiction

theorem retL_sound {a : Act} : ∀ (rs : List ResultVar) (xs : List AV), retL P H e rs = some xs → SR X K ι H w → REnv K ι H.length nt e a →
    ∃ vs : List Value, (rs.mapM (resF a.tmps)).run P w = .ok vs w ∧ vs.length = xs.length ∧
      ∀ i, i < xs.length → RelA K ι H.length (xs.getD i .junk) (vs.getD i undef)
  | [], xs, h, _, _ => by
    simp only [retL, Option.some.injEq] at h; subst h
    exact ⟨[], by simp, rfl, fun i hi => by simp at hi⟩
  | r :: rs, xs, h, hsr, he => by
    simp only [retL] at h
    split at h
    · rename_i x ys hx hys
      simp only [Option.some.injEq] at h; subst h
      obtain ⟨v, hv, hr⟩ := retA_sound hx hsr he
      obtain ⟨vs, hvs, hl, hrs⟩ := retL_sound rs ys hys hsr he
      refine ⟨v :: vs, ?_, by simp [hl], fun i hi => ?_⟩
      · simp only [List.mapM_cons, Sem.run_bind, hv, Result.andThen_ok, hvs, Sem.run_pure]
      · cases i with
        | zero => simpa using hr
        | succ i => simpa using hrs i (by simpa using hi)
    · contradiction

theorem resA_sound {a : Act} {fn : Func} {x : AV} (h : resA P H e fn.results.toList = some x) (hsr : SR X K ι H w) (he : REnv K ι H.length nt e a) :
    ∃ v, (results fn a.tmps).run P w = .ok v w ∧ RelA K ι H.length x v := by
  unfold resA at h
  have key : ∀ xs, retL P H e fn.results.toList = some xs → ∃ vs : Array Value, (fn.results.mapM (resF a.tmps)).run P w = .ok vs w ∧
      vs.size = xs.length ∧ ∀ i, i < xs.length → RelA K ι H.length (xs.getD i .junk) (vs.getD i undef) := fun xs hxs => by
    obtain ⟨vs, hvs, hl, hrs⟩ := retL_sound _ xs hxs hsr he
    refine ⟨vs.toArray, ?_, by simpa using hl, fun i hi => by rw [← getD_toList]; exact hrs i hi⟩
    rw [Array.mapM_eq_mapM_toList]
    simp only [Sem.run_map, hvs, Result.andThen_ok]
  have hres : ∀ (vs : Array Value), (fn.results.mapM (resF a.tmps)).run P w = .ok vs w → (results fn a.tmps).run P w = .ok (if h : vs.size = 1 then vs[0] else .tuple vs) w := fun vs hvs => by
    rw [results_eq]
    simp only [Sem.run_bind, hvs, Result.andThen_ok]
    rfl
  split at h
  · rename_i y hy
    simp only [Option.some.injEq] at h; subst h
    obtain ⟨vs, hvs, hl, hrs⟩ := key _ hy
    simp only [List.length_cons, List.length_nil, Nat.zero_add] at hl
    refine ⟨_, hres vs hvs, ?_⟩
    rw [dif_pos hl]
    have := hrs 0 (by simp)
    simpa [Array.getD, hl] using this
  · rename_i xs hne hxs
    simp only [Option.some.injEq] at h; subst h
    obtain ⟨vs, hvs, hl, hrs⟩ := key _ hxs
    refine ⟨_, hres vs hvs, ?_⟩
    have hn1 : ¬ vs.size = 1 := by
      intro h1
      rw [hl] at h1
      obtain ⟨z, rfl⟩ := List.length_eq_one_iff.1 h1
      exact hne z rfl
    rw [dif_neg hn1]
    exact relA_mkTup hl hrs
  · contradiction

mutual
def retD : AV → Option DV
  | .d x => some (normD x)
  | .tsl _ es => some (.sl .any es)
  | .agg cs => match retDL cs with | some ds => some (.agg ds) | none => none
  | .tup cs => match retDL cs with | some ds => some (.tup ds) | none => none
  | .ptr _ _ => none
  | .bsl _ _ _ _ => none
  | .clo _ _ => none
  | .mp _ => none
  | .junk => none
def retDL : List AV → Option (List DV)
  | [] => some []
  | x :: r => match retD x, retDL r with | some y, some ys => some (y :: ys) | _, _ => none
 end

theorem retDL_get : ∀ {cs : List AV} {ds : List DV}, retDL cs = some ds → ds.length = cs.length ∧ ∀ i, i < cs.length → retD (cs.getD i .junk) = some (ds.getD i .nilp)
  | [], ds, h => by simp [retDL] at h; subst h; simp
  | x :: r, ds, h => by
    simp only [retDL] at h
    split at h
    · rename_i y ys hy hys
      simp only [Option.some.injEq] at h; subst h
      obtain ⟨h1, h2⟩ := retDL_get hys
      refine ⟨by simp [h1], fun i hi => ?_⟩
      cases i with
      | zero => simpa using hy
      | succ i => simpa using h2 i (by simpa using hi)
    · contradiction

theorem retD_sound {n : Nat} {x : AV} {v : Value} (h : RelA K ι n x v) : ∀ {d : DV}, retD x = some d → Rel K d v := by
  induction h with
  | d x v h => intro d hd; simp only [retD, Option.some.injEq] at hd; subst hd; exact h.norm
  | tsl tok es v h ht hl hc => intro d hd; simp only [retD, Option.some.injEq] at hd; subst hd; exact h
  | agg cs vs hl h ih =>
    intro d hd
    simp only [retD] at hd
    split at hd
    · rename_i ds hds
      simp only [Option.some.injEq] at hd; subst hd
      obtain ⟨h1, h2⟩ := retDL_get hds
      exact .agg _ _ (by omega) fun i hi => ih i (by omega) (h2 i (by omega))
    · contradiction
  | tup cs vs hl h ih =>
    intro d hd
    simp only [retD] at hd
    split at hd
    · rename_i ds hds
      simp only [Option.some.injEq] at hd; subst hd
      obtain ⟨h1, h2⟩ := retDL_get hds
      exact .tup _ _ (by omega) fun i hi => ih i (by omega) (h2 i (by omega))
    · contradiction
  | _ => intro d hd; simp [retD] at hd

def env0 (args : List AV) : Env := fun t => args.getD t (.d (.tup []))

/-- The end of a body, with the memory of the caller's own. -/
def finW (P : Program) (rs : Array ResultVar) (r : AV) (H' : List HO) : Exit → Env → List HO → Prop := fun x e H1 =>
  match x with
  | .normal => resA P H1 e rs.toList = some r ∧ H1 = H'
  | .ret => resA P H1 e rs.toList = some r ∧ H1 = H'
  | _ => False

/-- The end of a body of a function of data. -/
def finP (P : Program) (rs : Array ResultVar) (r : DV) : Exit → Env → List HO → Prop := fun x e H1 =>
  match x with
  | .normal => ∃ y, resA P H1 e rs.toList = some y ∧ retD y = some r
  | .ret => ∃ y, resA P H1 e rs.toList = some y ∧ retD y = some r
  | _ => False

theorem start_env {n nt : Nat} {args : List AV} {vs : Array Value} (hl : vs.size = args.length) (hr : ∀ i, i < args.length → RelA K ι n (args.getD i .junk) (vs.getD i undef)) (hnt : args.length ≤ nt) :
    REnv K ι n nt (env0 args) { tmps := vs ++ Array.replicate (nt - vs.size) undef, defers := [] } := by
  refine ⟨rfl, by simp; omega, fun t => ?_⟩
  simp only [env0]
  by_cases ht : t < args.length
  · have := hr t ht
    have e1 : args.getD t (.d (.tup [])) = args.getD t .junk := by simp [List.getD_eq_getElem?_getD, ht]
    have e2 : (vs ++ Array.replicate (nt - vs.size) undef).getD t undef = vs.getD t undef := by
      simp only [Array.getD_eq_getD_getElem?]
      rw [Array.getElem?_append_left (by omega)]
    rw [e1, e2]; exact this
  · have e1 : args.getD t (.d (.tup [])) = .d (.tup []) := by simp [List.getD_eq_getElem?_getD, List.getElem?_eq_none (Nat.not_lt.1 ht)]
    have e2 : (vs ++ Array.replicate (nt - vs.size) undef).getD t undef = undef := by
      simp only [Array.getD_eq_getD_getElem?]
      rw [Array.getElem?_append_right (by omega), Array.getElem?_replicate]
      split <;> rfl
    rw [e1, e2]
    exact .d _ _ (.tup _ _ rfl (fun i hi => by simp at hi))

theorem fnOk_body {f : FuncId} {fn : Func} {c : Code} (hf : P.funcs[f]? = some fn) (hb : fn.body = some c) (hn : (fn.name != "runtime.NumGoroutine") = true) : fnOk P f = true := by
  simp [fnOk, hf, hb] at hn ⊢
  exact hn

theorem Fn.of_body {f : FuncId} {fn : Func} {c : Code} {args : List AV} {r : AV} {H' : List HO} (hm : P.follows .mixedOrders = true) (hf : P.funcs[f]? = some fn) (hb : fn.body = some c) (hn : (fn.name != "runtime.NumGoroutine") = true)
    (hd : dstOk fn.ntmps c = true) (hl : args.length ≤ fn.ntmps) (h : wpc P G H.length c (finW P fn.results r H') (env0 args) H) : Fn P G f args H r H' := by
  refine ⟨fnOk_body hf hb hn, fun X K ι w vs hsr hG hvl hvr => ?_⟩
  refine calls_of_wp hf hb ?_
  have hsr1 : SR ⟨X.w0, K, ι, H.length⟩ K ι H w := ⟨hsr.agree, hsr.below, Mem.le_refl K, fun _ _ => rfl, Nat.le_refl _, Pls.le_refl _ _, hsr.obj, hsr.sep⟩
  refine wp_mono (wpc_sound (nt := fn.ntmps) hm c _ _ H hd h ⟨X.w0, K, ι, H.length⟩ K ι _ w rfl hsr1 hG (start_env hvl hvr hl)) ?_
  rintro en a' w' ⟨e', H1, K', ι', hq, g1, g2, g3⟩
  have fin : resA P H1 e' fn.results.toList = some r ∧ H1 = H' → a'.defers = [] ∧ ∃ v, (results fn a'.tmps).run P w' = .ok v w' ∧ ∃ u, Ending.returned v = .returned u ∧ Left X K ι H.length H' r u w' := by
    rintro ⟨hr, rfl⟩
    obtain ⟨v, hv, hrv⟩ := resA_sound hr g1 g3
    refine ⟨g3.defers, v, hv, v, rfl, K', ι', ⟨g1.agree, g1.below, Mem.le_trans hsr.kle g1.kle, fun a ha => by rw [g1.kold a ha]; exact hsr.kold a ha, Nat.le_trans hsr.n0 g1.n0, Pls.le_trans hsr.n0 hsr.ile g1.ile, g1.obj, g1.sep⟩, hrv, g1.kle, g1.ile, g1.n0⟩
  cases en with
  | normal => exact fin hq
  | ret => exact fin hq
  | exit id => exact hq.elim
  | goto l => exact hq.elim
  | panic ch => exact hq.elim
  | outgrown => exact hq.elim

theorem PF.of_body {f : FuncId} {fn : Func} {c : Code} {args : List DV} {r : DV} (hm : P.follows .mixedOrders = true) (hf : P.funcs[f]? = some fn) (hb : fn.body = some c) (hn : (fn.name != "runtime.NumGoroutine") = true)
    (hd : dstOk fn.ntmps c = true) (hl : args.length ≤ fn.ntmps) (h : wpc P G 0 c (finP P fn.results r) (env0 (args.map .d)) []) : PF P G f args r := by
  intro H
  refine ⟨fnOk_body hf hb hn, fun X K ι w vs hsr hG hvl hvr => ?_⟩
  refine calls_of_wp hf hb ?_
  have hsr1 : SR ⟨w, K, ι, 0⟩ K ι [] w := ⟨hsr.agree, Below.refl _ _, Mem.le_refl K, fun _ _ => rfl, Nat.zero_le _, fun i hi => absurd hi (Nat.not_lt_zero _), fun i h hi => by simp at hi, fun i j h h' b hi => by simp at hi⟩
  have hvr0 : ∀ i, i < (args.map AV.d).length → RelA K ι 0 ((args.map AV.d).getD i .junk) (vs.getD i undef) := fun i hi => by
    have := hvr i hi
    rw [getD_map' AV.d args i .nilp _ (by simpa using hi)] at this ⊢
    exact .d _ _ this.get
  refine wp_mono (wpc_sound (nt := fn.ntmps) hm c _ _ [] hd h ⟨w, K, ι, 0⟩ K ι _ w rfl hsr1 hG (start_env hvl hvr0 (by simpa using hl))) ?_
  rintro en a' w' ⟨e', H1, K', ι', hq, g1, g2, g3⟩
  have fin : (∃ y, resA P H1 e' fn.results.toList = some y ∧ retD y = some r) → a'.defers = [] ∧ ∃ v, (results fn a'.tmps).run P w' = .ok v w' ∧ ∃ u, Ending.returned v = .returned u ∧ Left X K ι H.length H (.d r) u w' := by
    rintro ⟨y, hy, hr⟩
    obtain ⟨v, hv, hrv⟩ := resA_sound hy g1 g3
    have hrel := retD_sound hrv hr
    have hx : Ext K w K' w' := ⟨g1.kle, g1.kold, g1.agree, g1.below⟩
    exact ⟨g3.defers, v, hv, v, rfl, K', ι, hsr.ext hx, .d _ _ hrel, g1.kle, Pls.le_refl _ _, Nat.le_refl _⟩
  cases en with
  | normal => exact fin hq
  | ret => exact fin hq
  | exit id => exact hq.elim
  | goto l => exact hq.elim
  | panic ch => exact hq.elim
  | outgrown => exact hq.elim

end
end Go.Proofs.YtjmldlknegbimaaDoor.Sx
