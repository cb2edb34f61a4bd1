/- Runs at given data: code is carried out, and what comes out is a contract. Own library, part 19. -/
import Derived.Test.YtjmldlknegbimaaGreatDoorM3
set_option linter.unusedVariables false
set_option linter.unusedSimpArgs false
namespace Go.Proofs.YtjmldlknegbimaaGreatDoor.Sx
open Go Go.RowKit

abbrev Cf := FuncId → List DV → Option DV
abbrev Cw := FuncId → List AV → List HO → Option (AV × List HO)

section
variable (P : Program) (G : Gl) (cf : Cf) (cw : Cw)

def exS (op : Op) (e : Env) (H : List HO) : Option (Cls × AV × List HO) :=
  match pst P G e op with
  | some r => some (.pure, r, H)
  | none =>
    match hst P G e H op with
    | some (r, H') => some (hcls G e H op r, r, H')
    | none =>
      match op with
      | .call ⟨.value f, args, _⟩ =>
        match ev G e f with
        | .d (.func F) =>
          match allD (normAL (args.toList.map (ev G e))) with
          | some ds => match cf F ds with | some r => some (.pure, .d r, H) | none => none
          | none => match cw F (normAL (args.toList.map (ev G e))) H with | some (r, H') => some (.write, r, H') | none => none
        | .clo F caps => match cw F (normAL (args.toList.map (ev G e)) ++ caps) H with | some (r, H') => some (.write, r, H') | none => none
        | _ => none
      | _ => none

def exO (all : Array Oper) : List Oper → List Cls → Env → List HO → Option (List Cls × Env × List HO)
  | [], cs, e, H => some (cs, e, H)
  | o :: os, cs, e, H =>
    match wantA all e o.guard with
    | some true => match exS P G cf cw o.op e H with | some (c, r, H') => exO all os (cs ++ [c]) (updO e o.dst r) H' | none => none
    | some false => exO all os (cs ++ [.pure]) (updO e o.dst (.d (.tup []))) H
    | none => none

def iterX (body : Env → List HO → Option (Exit × Env × List HO)) : Nat → Env → List HO → Option (Exit × Env × List HO)
  | 0, _, _ => none
  | m + 1, e, H =>
    match body e H with
    | some (.normal, e', H') => iterX body m e' H'
    | r => r

def exC (m : Nat) : Code → Env → List HO → Option (Exit × Env × List HO)
  | .skip, e, H => some (.normal, e, H)
  | .label _, e, H => some (.normal, e, H)
  | .ret, e, H => some (.ret, e, H)
  | .exit id, e, H => some (.exit id, e, H)
  | .seq a b, e, H => match exC m a e H with | some (.normal, e', H') => exC m b e' H' | r => r
  | .cond c a b, e, H => match ev G e c with | .d (.bool true) => exC m a e H | .d (.bool false) => exC m b e H | _ => none
  | .block id a, e, H => match exC m a e H with | some (.exit id', e', H') => if id' = id then some (.normal, e', H') else some (.exit id', e', H') | r => r
  | .loop a, e, H => iterX (exC m a) m e H
  | .region _ ops false, e, H => match exO P G cf cw ops ops.toList [] e H with | some (_, e', H') => some (.normal, e', H') | none => none
  | .region _ ops true, e, H => match exO P G cf cw ops ops.toList [] e H with | some (cs, e', H') => if drawOk ops cs = true then some (.normal, e', H') else none | none => none
  | _, _, _ => none
end

/-- One call, by contracts that are known, or by its body. -/
def exP (P : Program) (G : Gl) (ctr : Cf) (m : Nat) (p : Cf × Cw) : Cf := fun f ds =>
  match ctr f ds with
  | some r => some r
  | none =>
    match P.funcs[f]? with
    | some fn =>
      match fn.body with
      | some c =>
        if ds.length ≤ fn.ntmps then
          match exC P G p.1 p.2 m c (env0 (ds.map .d)) [] with
          | some (.normal, e, H) => match resA P H e fn.results.toList with | some y => retD y | none => none
          | some (.ret, e, H) => match resA P H e fn.results.toList with | some y => retD y | none => none
          | _ => none
        else none
      | none => none
    | none => none

def exW (P : Program) (G : Gl) (m : Nat) (p : Cf × Cw) : Cw := fun f xs H =>
  match P.funcs[f]? with
  | some fn =>
    match fn.body with
    | some c =>
      if xs.length ≤ fn.ntmps then
        match exC P G p.1 p.2 m c (env0 xs) H with
        | some (.normal, e, H') => match resA P H' e fn.results.toList with | some y => some (y, H') | none => none
        | some (.ret, e, H') => match resA P H' e fn.results.toList with | some y => some (y, H') | none => none
        | _ => none
      else none
    | none => none
  | none => none

def exD (P : Program) (G : Gl) (ctr : Cf) (m : Nat) : Nat → Cf × Cw
  | 0 => (fun _ _ => none, fun _ _ _ => none)
  | d + 1 => (exP P G ctr m (exD P G ctr m d), exW P G m (exD P G ctr m d))

/-- What is asked of all functions at once. -/
def allOk (P : Program) : Bool := P.funcs.toList.all fun fn => match fn.body with
  | some c => dstOk fn.ntmps c && ((fn.name != "runtime.NumGoroutine") && decide (fn.ntmps ≤ dSlot))
  | none => true

section
variable {P : Program} {G : Gl} {cf : Cf} {cw : Cw} {nt : Nat}

theorem allD_eq : ∀ {cs : List AV} {ds : List DV}, allD cs = some ds → cs = ds.map .d
  | [], ds, h => by simp [allD] at h; subst h; rfl
  | x :: r, ds, h => by
    obtain ⟨h1, h2⟩ := allD_get h
    apply List.ext_getElem (by simp [h1])
    intro i g1 g2
    have := h2 i g1
    have hi : i < ds.length := by simpa using g2
    simpa [List.getD_eq_getElem?_getD, g1, hi, List.getElem?_eq_getElem g1] using this

theorem Fn.of_holds {f : FuncId} {fn : Func} {c : Code} {args : List AV} {r : AV} {H H' : List HO} (hf : P.funcs[f]? = some fn) (hb : fn.body = some c) (hn : (fn.name != "runtime.NumGoroutine") = true)
    (hl : args.length ≤ fn.ntmps) (hroom : fn.ntmps ≤ dSlot) {Q : Exit → Env → List HO → Prop} (h : ∀ X K ι a w, SR X K ι H w → GOk K G → REnv true K ι H.length fn.ntmps (env0 args) a → Code.wpIn (FR none) 0 P c (Holds X G true fn.ntmps Q) a w)
    (hQ : ∀ x e H1, Q x e H1 → finW P fn.results r H' x e H1) : Fn P G f args H r H' := by
  refine ⟨fnOk_body hf hb hn, fun X K ι w vs hsr hG hvl hvr => ?_⟩
  refine (callsIn_wide (n := 0)).1 (callsIn_of_wp hf hb trivial ?_)
  show Code.wpIn (FR none) 0 P c _ _ _
  have hsr1 : SR ⟨X.w0, K, ι, H.length⟩ K ι H w := ⟨hsr.agree, hsr.below, Mem.le_refl K, fun _ _ => rfl, Nat.le_refl _, Pls.le_refl _ _, hsr.obj, hsr.sep⟩
  refine wpIn_mono (h ⟨X.w0, K, ι, H.length⟩ K ι _ w hsr1 hG (start_env hvl hvr hl hroom)) ?_
  rintro en a' w' ⟨e', H1, K', ι', hq, g1, g2, g3⟩
  have hq := hQ _ _ _ hq
  have fin : resA P H1 e' fn.results.toList = some r ∧ H1 = H' → a'.defers = [] ∧ ∃ v, (results fn a'.tmps).run P w' = .ok v w' ∧ ∃ u, Ending.returned v = .returned u ∧ Left X K ι H.length H' r u w' := by
    rintro ⟨hr, rfl⟩
    obtain ⟨v, hv, hrv⟩ := resA_sound hr g1 g3
    refine ⟨g3.plain rfl, v, hv, v, rfl, K', ι', ⟨g1.agree, g1.below, Mem.le_trans hsr.kle g1.kle, fun a ha => by rw [g1.kold a ha]; exact hsr.kold a ha, Nat.le_trans hsr.n0 g1.n0, Pls.le_trans hsr.n0 hsr.ile g1.ile, g1.obj, g1.sep⟩, hrv, g1.kle, g1.ile, g1.n0⟩
  cases en with
  | normal => exact fin hq
  | ret => exact fin hq
  | exit id => exact hq.elim
  | goto l => exact hq.elim
  | panic ch => exact hq.elim
  | outgrown => exact hq.elim

theorem PF.of_holds {f : FuncId} {fn : Func} {c : Code} {args : List DV} {r : DV} (hf : P.funcs[f]? = some fn) (hb : fn.body = some c) (hn : (fn.name != "runtime.NumGoroutine") = true)
    (hl : args.length ≤ fn.ntmps) (hroom : fn.ntmps ≤ dSlot) {Q : Exit → Env → List HO → Prop} (h : ∀ X K ι a w, SR X K ι [] w → GOk K G → REnv true K ι 0 fn.ntmps (env0 (args.map .d)) a → Code.wpIn (FR none) 0 P c (Holds X G true fn.ntmps Q) a w)
    (hQ : ∀ x e H1, Q x e H1 → finP P fn.results r x e H1) : PF P G f args r := by
  intro H
  refine ⟨fnOk_body hf hb hn, fun X K ι w vs hsr hG hvl hvr => ?_⟩
  refine (callsIn_wide (n := 0)).1 (callsIn_of_wp hf hb trivial ?_)
  show Code.wpIn (FR none) 0 P c _ _ _
  have hsr1 : SR ⟨w, K, ι, 0⟩ K ι [] w := ⟨hsr.agree, Below.refl _ _, Mem.le_refl K, fun _ _ => rfl, Nat.zero_le _, fun i hi => absurd hi (Nat.not_lt_zero _), fun i h hi => by simp at hi, fun i j h h' b hi => by simp at hi⟩
  have hvr0 : ∀ i, i < (args.map AV.d).length → RelA K ι 0 ((args.map AV.d).getD i .junk) (vs.getD i undef) := fun i hi => by
    have := hvr i hi
    rw [getD_map' AV.d args i .nilp _ (by simpa using hi)] at this ⊢
    exact .d _ _ this.get
  refine wpIn_mono (h ⟨w, K, ι, 0⟩ K ι _ w hsr1 hG (start_env hvl hvr0 (by simpa using hl) hroom)) ?_
  rintro en a' w' ⟨e', H1, K', ι', hq, g1, g2, g3⟩
  have hq := hQ _ _ _ hq
  have fin : (∃ y, resA P H1 e' fn.results.toList = some y ∧ retD y = some r) → a'.defers = [] ∧ ∃ v, (results fn a'.tmps).run P w' = .ok v w' ∧ ∃ u, Ending.returned v = .returned u ∧ Left X K ι H.length H (.d r) u w' := by
    rintro ⟨y, hy, hr⟩
    obtain ⟨v, hv, hrv⟩ := resA_sound hy g1 g3
    have hrel := retD_sound hrv hr
    have hx : Ext K w K' w' := ⟨g1.kle, g1.kold, g1.agree, g1.below⟩
    exact ⟨g3.plain rfl, v, hv, v, rfl, K', ι, hsr.ext hx, .d _ _ hrel, g1.kle, Pls.le_refl _ _, Nat.le_refl _⟩
  cases en with
  | normal => exact fin hq
  | ret => exact fin hq
  | exit id => exact hq.elim
  | goto l => exact hq.elim
  | panic ch => exact hq.elim
  | outgrown => exact hq.elim

theorem exS_W (hcf : ∀ f ds r, cf f ds = some r → PF P G f ds r) (hcw : ∀ f xs H r H', cw f xs H = some (r, H') → Fn P G f xs H r H') {op : Op} {e : Env} {H : List HO} {c : Cls} {r : AV} {H' : List HO}
    (h : exS P G cf cw op e H = some (c, r, H')) {Q : AV → List HO → Prop} (hq : Q r H') : stepW P G op e H Q := by
  unfold exS at h
  unfold stepW
  split at h
  · rename_i r' hp
    simp only [Option.some.injEq, Prod.mk.injEq] at h
    obtain ⟨_, rfl, rfl⟩ := h
    simp only [hp]; exact hq
  · rename_i hp
    split at h
    · rename_i r' H'' hh
      simp only [Option.some.injEq, Prod.mk.injEq] at h
      obtain ⟨_, rfl, rfl⟩ := h
      simp only [hp, hh]; exact hq
    · rename_i hh
      simp only [hp, hh]
      split at h
      · rename_i f args ts
        simp only [opCall]
        split at h
        · rename_i F hF
          rw [hF]
          simp only [callW]
          split at h
          · rename_i ds hds
            split at h
            · rename_i r' hr
              simp only [Option.some.injEq, Prod.mk.injEq] at h
              obtain ⟨_, rfl, rfl⟩ := h
              have := hcf _ _ _ hr H
              rw [← allD_eq hds] at this
              exact ⟨_, _, this, hq⟩
            · contradiction
          · split at h
            · rename_i r' H'' hr
              simp only [Option.some.injEq, Prod.mk.injEq] at h
              obtain ⟨_, rfl, rfl⟩ := h
              exact ⟨_, _, hcw _ _ _ _ _ hr, hq⟩
            · contradiction
        · rename_i F caps hF
          rw [hF]
          simp only [callW]
          split at h
          · rename_i r' H'' hr
            simp only [Option.some.injEq, Prod.mk.injEq] at h
            obtain ⟨_, rfl, rfl⟩ := h
            exact ⟨_, _, hcw _ _ _ _ _ hr, hq⟩
          · contradiction
        · contradiction
      · contradiction

theorem exS_T (hcf : ∀ f ds r, cf f ds = some r → PF P G f ds r) (hcw : ∀ f xs H r H', cw f xs H = some (r, H') → Fn P G f xs H r H') {op : Op} {e : Env} {H : List HO} {c : Cls} {r : AV} {H' : List HO}
    (h : exS P G cf cw op e H = some (c, r, H')) {Q : Cls → AV → List HO → Prop} (hq : Q c r H') : stepT P G op e H Q := by
  unfold exS at h
  unfold stepT
  split at h
  · rename_i r' hp
    simp only [Option.some.injEq, Prod.mk.injEq] at h
    obtain ⟨rfl, rfl, rfl⟩ := h
    simp only [hp]; exact hq
  · rename_i hp
    split at h
    · rename_i r' H'' hh
      simp only [Option.some.injEq, Prod.mk.injEq] at h
      obtain ⟨rfl, rfl, rfl⟩ := h
      simp only [hp, hh]; exact hq
    · rename_i hh
      simp only [hp, hh]
      split at h
      · rename_i f args ts
        simp only [opCallT]
        split at h
        · rename_i F hF
          rw [hF]
          simp only [callT]
          split at h
          · rename_i ds hds
            split at h
            · rename_i r' hr
              simp only [Option.some.injEq, Prod.mk.injEq] at h
              obtain ⟨rfl, rfl, rfl⟩ := h
              rw [hds]
              exact ⟨_, hcf _ _ _ hr, hq⟩
            · contradiction
          · rename_i hds
            split at h
            · rename_i r' H'' hr
              simp only [Option.some.injEq, Prod.mk.injEq] at h
              obtain ⟨rfl, rfl, rfl⟩ := h
              rw [hds]
              exact ⟨_, _, .write, hcw _ _ _ _ _ hr, trivial, hq⟩
            · contradiction
        · rename_i F caps hF
          rw [hF]
          simp only [callT]
          split at h
          · rename_i r' H'' hr
            simp only [Option.some.injEq, Prod.mk.injEq] at h
            obtain ⟨rfl, rfl, rfl⟩ := h
            exact ⟨_, _, .write, hcw _ _ _ _ _ hr, trivial, hq⟩
          · contradiction
        · contradiction
      · contradiction

theorem exO_W (hcf : ∀ f ds r, cf f ds = some r → PF P G f ds r) (hcw : ∀ f xs H r H', cw f xs H = some (r, H') → Fn P G f xs H r H') (all : Array Oper) :
    ∀ (l : List Oper) (cs : List Cls) (e : Env) (H : List HO) (cs' : List Cls) (e' : Env) (H' : List HO), exO P G cf cw all l cs e H = some (cs', e', H') → ∀ Q : Env → List HO → Prop, Q e' H' → opsW P G all l Q e H
  | [], cs, e, H, cs', e', H', h, Q, hq => by
    simp only [exO, Option.some.injEq, Prod.mk.injEq] at h
    obtain ⟨_, rfl, rfl⟩ := h
    exact hq
  | o :: os, cs, e, H, cs', e', H', h, Q, hq => by
    rw [exO] at h
    rw [opsW]
    split at h
    · rename_i hw
      rw [hw]
      split at h
      · rename_i c r H'' hs
        exact exS_W hcf hcw hs (Q := fun r H' => opsW P G all os Q (updO e o.dst r) H') (exO_W hcf hcw all os _ _ _ _ _ _ h Q hq)
      · contradiction
    · rename_i hw
      rw [hw]
      exact exO_W hcf hcw all os _ _ _ _ _ _ h Q hq
    · contradiction

theorem exO_T (hcf : ∀ f ds r, cf f ds = some r → PF P G f ds r) (hcw : ∀ f xs H r H', cw f xs H = some (r, H') → Fn P G f xs H r H') (all : Array Oper) :
    ∀ (l : List Oper) (cs : List Cls) (e : Env) (H : List HO) (cs' : List Cls) (e' : Env) (H' : List HO), exO P G cf cw all l cs e H = some (cs', e', H') → ∀ Q : List Cls → Env → List HO → Prop, Q cs' e' H' → trW P G all l cs Q e H
  | [], cs, e, H, cs', e', H', h, Q, hq => by
    simp only [exO, Option.some.injEq, Prod.mk.injEq] at h
    obtain ⟨rfl, rfl, rfl⟩ := h
    exact hq
  | o :: os, cs, e, H, cs', e', H', h, Q, hq => by
    rw [exO] at h
    rw [trW]
    split at h
    · rename_i hw
      rw [hw]
      split at h
      · rename_i c r H'' hs
        exact exS_T hcf hcw hs (Q := fun c r H' => trW P G all os (cs ++ [c]) Q (updO e o.dst r) H') (exO_T hcf hcw all os _ _ _ _ _ _ h Q hq)
      · contradiction
    · rename_i hw
      rw [hw]
      exact exO_T hcf hcw all os _ _ _ _ _ _ h Q hq
    · contradiction

theorem exC_sound (hm : P.follows .mixedOrders = true) (hcf : ∀ f ds r, cf f ds = some r → PF P G f ds r) (hcw : ∀ f xs H r H', cw f xs H = some (r, H') → Fn P G f xs H r H') (m : Nat) :
    ∀ (c : Code) (e : Env) (H : List HO) (x : Exit) (e' : Env) (H' : List HO), dstOk nt c = true → exC P G cf cw m c e H = some (x, e', H') →
    ∀ X K ι a w, SR X K ι H w → GOk K G → REnv true K ι H.length nt e a → Code.wpIn (FR none) 0 P c (Holds X G true nt fun x1 e1 H1 => x1 = x ∧ e1 = e' ∧ H1 = H') a w := by
  intro c
  induction c with
  | skip => intro e H x e' H' _ h X K ι a w hsr hG he; simp only [exC, Option.some.injEq, Prod.mk.injEq] at h; obtain ⟨rfl, rfl, rfl⟩ := h; exact wpIn_skip ⟨_, _, K, ι, ⟨rfl, rfl, rfl⟩, hsr, hG, he⟩
  | label l => intro e H x e' H' _ h X K ι a w hsr hG he; simp only [exC, Option.some.injEq, Prod.mk.injEq] at h; obtain ⟨rfl, rfl, rfl⟩ := h; exact wpIn_label ⟨_, _, K, ι, ⟨rfl, rfl, rfl⟩, hsr, hG, he⟩
  | ret => intro e H x e' H' _ h X K ι a w hsr hG he; simp only [exC, Option.some.injEq, Prod.mk.injEq] at h; obtain ⟨rfl, rfl, rfl⟩ := h; exact wpIn_ret ⟨_, _, K, ι, ⟨rfl, rfl, rfl⟩, hsr, hG, he⟩
  | exit id => intro e H x e' H' _ h X K ι a w hsr hG he; simp only [exC, Option.some.injEq, Prod.mk.injEq] at h; obtain ⟨rfl, rfl, rfl⟩ := h; exact wpIn_exit ⟨_, _, K, ι, ⟨rfl, rfl, rfl⟩, hsr, hG, he⟩
  | seq c1 c2 ih1 ih2 =>
    intro e H x e' H' hd h X K ι a w hsr hG he
    simp only [dstOk, Bool.and_eq_true] at hd
    rw [exC] at h
    split at h
    · rename_i e1 H1 h1
      refine wpIn_seq (wpIn_mono (ih1 _ _ _ _ _ hd.1 h1 X K ι a w hsr hG he) ?_)
      rintro en a' w' ⟨e2, H2, K', ι', ⟨rfl, rfl, rfl⟩, g1, g2, g3⟩
      exact ih2 _ _ _ _ _ hd.2 h X K' ι' a' w' g1 g2 g3
    · rename_i hne
      refine wpIn_seq (wpIn_mono (ih1 _ _ _ _ _ hd.1 h X K ι a w hsr hG he) ?_)
      rintro en a' w' ⟨e2, H2, K', ι', ⟨rfl, rfl, rfl⟩, g1, g2, g3⟩
      cases en with
      | normal => exact absurd h (hne _ _)
      | exit id => exact ⟨_, _, K', ι', ⟨rfl, rfl, rfl⟩, g1, g2, g3⟩
      | goto l => exact ⟨_, _, K', ι', ⟨rfl, rfl, rfl⟩, g1, g2, g3⟩
      | ret => exact ⟨_, _, K', ι', ⟨rfl, rfl, rfl⟩, g1, g2, g3⟩
      | panic ch => exact ⟨_, _, K', ι', ⟨rfl, rfl, rfl⟩, g1, g2, g3⟩
      | outgrown => exact ⟨_, _, K', ι', ⟨rfl, rfl, rfl⟩, g1, g2, g3⟩
  | cond c1 c2 c3 ih1 ih2 =>
    intro e H x e' H' hd h X K ι a w hsr hG he
    simp only [dstOk, Bool.and_eq_true] at hd
    rw [exC] at h
    have hr := ev_rel (G := G) hG he.rel c1
    split at h
    · rename_i hc
      rw [hc] at hr
      have hg := hr.get
      generalize hv : a.eval c1 = v at hg
      cases hg
      exact wpIn_cond_true hv (ih1 _ _ _ _ _ hd.1 h X K ι a w hsr hG he)
    · rename_i hc
      rw [hc] at hr
      have hg := hr.get
      generalize hv : a.eval c1 = v at hg
      cases hg
      exact wpIn_cond_false hv (ih2 _ _ _ _ _ hd.2 h X K ι a w hsr hG he)
    · contradiction
  | block id c ih =>
    intro e H x e' H' hd h X K ι a w hsr hG he
    simp only [dstOk] at hd
    rw [exC] at h
    split at h
    · rename_i id' e1 H1 h1
      refine wpIn_block (wpIn_mono (ih _ _ _ _ _ hd h1 X K ι a w hsr hG he) ?_)
      rintro en a' w' ⟨e2, H2, K', ι', ⟨rfl, rfl, rfl⟩, g1, g2, g3⟩
      simp only [Exit.inBlock]
      by_cases hid : id' = id
      · rw [if_pos hid] at h ⊢
        simp only [Option.some.injEq, Prod.mk.injEq] at h
        obtain ⟨rfl, rfl, rfl⟩ := h
        exact ⟨_, _, K', ι', ⟨rfl, rfl, rfl⟩, g1, g2, g3⟩
      · rw [if_neg hid] at h ⊢
        simp only [Option.some.injEq, Prod.mk.injEq] at h
        obtain ⟨rfl, rfl, rfl⟩ := h
        exact ⟨_, _, K', ι', ⟨rfl, rfl, rfl⟩, g1, g2, g3⟩
    · rename_i hne
      refine wpIn_block (wpIn_mono (ih _ _ _ _ _ hd h X K ι a w hsr hG he) ?_)
      rintro en a' w' ⟨e2, H2, K', ι', ⟨rfl, rfl, rfl⟩, g1, g2, g3⟩
      cases en with
      | normal => exact ⟨_, _, K', ι', ⟨rfl, rfl, rfl⟩, g1, g2, g3⟩
      | exit id' => exact absurd h (hne _ _ _)
      | goto l => exact ⟨_, _, K', ι', ⟨rfl, rfl, rfl⟩, g1, g2, g3⟩
      | ret => exact ⟨_, _, K', ι', ⟨rfl, rfl, rfl⟩, g1, g2, g3⟩
      | panic ch => exact ⟨_, _, K', ι', ⟨rfl, rfl, rfl⟩, g1, g2, g3⟩
      | outgrown => exact ⟨_, _, K', ι', ⟨rfl, rfl, rfl⟩, g1, g2, g3⟩
  | loop c ih =>
    intro e H x e' H' hd h X K ι a w hsr hG he
    simp only [dstOk] at hd
    rw [exC] at h
    refine wp_loop_ind (fun n a w => ∃ e H K ι, iterX (exC P G cf cw m c) n e H = some (x, e', H') ∧ SR X K ι H w ∧ GOk K G ∧ REnv true K ι H.length nt e a) ?_ ⟨e, H, K, ι, h, hsr, hG, he⟩
    rintro n a w ⟨e, H, K, ι, hI, hsr, hG, he⟩
    cases n with
    | zero => simp [iterX] at hI
    | succ n =>
      rw [iterX] at hI
      split at hI
      · rename_i e1 H1 h1
        refine wpIn_mono (ih _ _ _ _ _ hd h1 X K ι a w hsr hG he) ?_
        rintro en a' w' ⟨e2, H2, K', ι', ⟨rfl, rfl, rfl⟩, g1, g2, g3⟩
        exact ⟨n, Nat.lt_succ_self n, _, _, K', ι', hI, g1, g2, g3⟩
      · rename_i hne
        refine wpIn_mono (ih _ _ _ _ _ hd hI X K ι a w hsr hG he) ?_
        rintro en a' w' ⟨e2, H2, K', ι', ⟨rfl, rfl, rfl⟩, g1, g2, g3⟩
        cases en with
        | normal => exact absurd hI (hne _ _)
        | exit id => exact ⟨_, _, K', ι', ⟨rfl, rfl, rfl⟩, g1, g2, g3⟩
        | goto l => exact ⟨_, _, K', ι', ⟨rfl, rfl, rfl⟩, g1, g2, g3⟩
        | ret => exact ⟨_, _, K', ι', ⟨rfl, rfl, rfl⟩, g1, g2, g3⟩
        | panic ch => exact ⟨_, _, K', ι', ⟨rfl, rfl, rfl⟩, g1, g2, g3⟩
        | outgrown => exact ⟨_, _, K', ι', ⟨rfl, rfl, rfl⟩, g1, g2, g3⟩
  | region id ops draw =>
    intro e H x e' H' hd h X K ι a w hsr hG he
    have hdo : ∀ (j : Nat) (o' : Oper) (t : Tmp), ops[j]? = some o' → o'.dst = some t → t < nt := by
      intro j o' t hj ht
      simp only [dstOk, List.all_eq_true] at hd
      have := hd o' (by simpa using Array.mem_of_getElem? hj)
      rw [ht] at this
      simpa using this
    cases draw with
    | true =>
      rw [exC] at h
      split at h
      · rename_i cs e1 H1 h1
        split at h
        · rename_i hdr
          simp only [Option.some.injEq, Prod.mk.injEq] at h
          obtain ⟨rfl, rfl, rfl⟩ := h
          exact draw_sound hm hdo (exO_T hcf hcw ops _ _ _ _ _ _ _ h1 _ ⟨hdr, rfl, rfl, rfl⟩) hsr hG he
        · contradiction
      · contradiction
    | false =>
      rw [exC] at h
      split at h
      · rename_i cs e1 H1 h1
        simp only [Option.some.injEq, Prod.mk.injEq] at h
        obtain ⟨rfl, rfl, rfl⟩ := h
        refine wpIn_region ?_
        have := opsW_sound (ro := none) (X := X) ops hdo ops.toList 0 (fun e H => e = e1 ∧ H = H1) e H K ι a w (by simp) (exO_W hcf hcw ops _ _ _ _ _ _ _ h1 _ ⟨rfl, rfl⟩) hsr hG he (Holds X G true nt fun x1 e1' H1' => x1 = .normal ∧ e1' = e1 ∧ H1' = H1)
          (fun e H K ι a w hq g1 g2 g3 => ⟨e, H, K, ι, ⟨rfl, hq⟩, g1, g2, g3⟩)
        simpa [List.range_eq_range'] using this
      · contradiction
  | rangeFunc f ps x y => intro e H x e' H' _ h; simp [exC] at h
  | scope x => intro e H x e' H' _ h; simp [exC] at h
  | goto l => intro e H x e' H' _ h; simp [exC] at h
  | refuse why => intro e H x e' H' _ h; simp [exC] at h

theorem allOk_at (h : allOk P = true) {f : FuncId} {fn : Func} {c : Code} (hf : P.funcs[f]? = some fn) (hb : fn.body = some c) : dstOk fn.ntmps c = true ∧ (fn.name != "runtime.NumGoroutine") = true ∧ fn.ntmps ≤ dSlot := by
  unfold allOk at h
  rw [List.all_eq_true] at h
  have := h fn (by simpa using Array.mem_of_getElem? hf)
  rw [hb] at this
  simpa using this

theorem exP_sound (hm : P.follows .mixedOrders = true) (hall : allOk P = true) {ctr : Cf} (hctr : ∀ f ds r, ctr f ds = some r → PF P G f ds r) {m : Nat} {p : Cf × Cw} (hcf : ∀ f ds r, p.1 f ds = some r → PF P G f ds r)
    (hcw : ∀ f xs H r H', p.2 f xs H = some (r, H') → Fn P G f xs H r H') : ∀ f ds r, exP P G ctr m p f ds = some r → PF P G f ds r := by
  intro f ds r h
  unfold exP at h
  split at h
  · rename_i r' hr
    simp only [Option.some.injEq] at h; subst h
    exact hctr _ _ _ hr
  · split at h
    · rename_i fn hf
      split at h
      · rename_i c hb
        obtain ⟨hd, hn, hroom⟩ := allOk_at hall hf hb
        split at h
        · rename_i hl
          have main : ∀ x e H1, exC P G p.1 p.2 m c (env0 (ds.map .d)) [] = some (x, e, H1) → (x = .normal ∨ x = .ret) → (∃ y, resA P H1 e fn.results.toList = some y ∧ retD y = some r) → PF P G f ds r := by
            intro x e H1 hx hxx hy
            refine PF.of_holds hf hb hn hl hroom (fun X K ι a w h1 h2 h3 => exC_sound hm hcf hcw m c _ _ _ _ _ hd hx X K ι a w h1 h2 h3) ?_
            rintro x1 e1 H2 ⟨rfl, rfl, rfl⟩
            rcases hxx with rfl | rfl
            · exact hy
            · exact hy
          split at h
          · rename_i e H1 hx
            split at h
            · rename_i y hy; exact main _ _ _ hx (.inl rfl) ⟨y, hy, h⟩
            · contradiction
          · rename_i e H1 hx
            split at h
            · rename_i y hy; exact main _ _ _ hx (.inr rfl) ⟨y, hy, h⟩
            · contradiction
          · contradiction
        · contradiction
      · contradiction
    · contradiction
theorem exW_sound (hm : P.follows .mixedOrders = true) (hall : allOk P = true) {m : Nat} {p : Cf × Cw} (hcf : ∀ f ds r, p.1 f ds = some r → PF P G f ds r)
    (hcw : ∀ f xs H r H', p.2 f xs H = some (r, H') → Fn P G f xs H r H') : ∀ f xs H r H', exW P G m p f xs H = some (r, H') → Fn P G f xs H r H' := by
  intro f xs H r H' h
  unfold exW at h
  split at h
  · rename_i fn hf
    split at h
    · rename_i c hb
      obtain ⟨hd, hn, hroom⟩ := allOk_at hall hf hb
      split at h
      · rename_i hl
        have main : ∀ x e H1, exC P G p.1 p.2 m c (env0 xs) H = some (x, e, H1) → (x = .normal ∨ x = .ret) → (resA P H1 e fn.results.toList = some r ∧ H1 = H') → Fn P G f xs H r H' := by
          intro x e H1 hx hxx hy
          refine Fn.of_holds hf hb hn hl hroom (fun X K ι a w h1 h2 h3 => exC_sound hm hcf hcw m c _ _ _ _ _ hd hx X K ι a w h1 h2 h3) ?_
          rintro x1 e1 H2 ⟨rfl, rfl, rfl⟩
          rcases hxx with rfl | rfl
          · exact hy
          · exact hy
        split at h
        · rename_i e H1 hx
          split at h
          · rename_i y hy
            simp only [Option.some.injEq, Prod.mk.injEq] at h
            obtain ⟨rfl, rfl⟩ := h
            exact main _ _ _ hx (.inl rfl) ⟨hy, rfl⟩
          · contradiction
        · rename_i e H1 hx
          split at h
          · rename_i y hy
            simp only [Option.some.injEq, Prod.mk.injEq] at h
            obtain ⟨rfl, rfl⟩ := h
            exact main _ _ _ hx (.inr rfl) ⟨hy, rfl⟩
          · contradiction
        · contradiction
      · contradiction
    · contradiction
  · contradiction

theorem exD_sound (hm : P.follows .mixedOrders = true) (hall : allOk P = true) {ctr : Cf} (hctr : ∀ f ds r, ctr f ds = some r → PF P G f ds r) (m : Nat) : ∀ d,
    (∀ f ds r, (exD P G ctr m d).1 f ds = some r → PF P G f ds r) ∧ (∀ f xs H r H', (exD P G ctr m d).2 f xs H = some (r, H') → Fn P G f xs H r H')
  | 0 => ⟨fun f ds r h => by simp [exD] at h, fun f xs H r H' h => by simp [exD] at h⟩
  | d + 1 => by
    obtain ⟨h1, h2⟩ := exD_sound hm hall hctr m d
    exact ⟨exP_sound hm hall hctr h1 h2, exW_sound hm hall h1 h2⟩
end
end Go.Proofs.YtjmldlknegbimaaGreatDoor.Sx
