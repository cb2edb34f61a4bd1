/- A region whose order is open: every order is simulated by the reference run. Own library, part 13. -/
import Derived.Test.YtjmldlknegbimaaDoorA12
set_option linter.unusedVariables false
set_option linter.unusedSimpArgs false
namespace Go.Proofs.YtjmldlknegbimaaDoor.Sx
open Go Go.RowKit

section
variable {P : Program} {G : Gl} {X : Cxt} {nt : Nat}

/-- The slots when just the listed operations have been carried out. -/
noncomputable def envL (ops : Array Oper) (e : Env) (val : Nat → AV) (L : Nat → Prop) : Env := fun t =>
  open Classical in if h : ∃ i, L i ∧ dstOf ops i = some t then val h.choose else e t

structure Setup (P : Program) (G : Gl) (ops : Array Oper) (e : Env) (H : List HO) (cs : List Cls) (env : Nat → Env) (Hs : Nat → List HO) (val : Nat → AV) (cl : Nat → Cls) : Prop where
  e0 : env 0 = e
  h0 : Hs 0 = H
  ran : ∀ i, i < ops.size → Ran P G ops env Hs val cl i
  hcs : ∀ i, i < ops.size → cs.getD i .pure = cl i
  facts : DrawFacts ops cs

variable {ops : Array Oper} {e : Env} {H : List HO} {cs : List Cls} {env : Nat → Env} {Hs : Nat → List HO} {val : Nat → AV} {cl : Nat → Cls}

theorem dstOf_some {i : Nat} {t : Tmp} (h : dstOf ops i = some t) : ∃ o, ops[i]? = some o ∧ o.dst = some t := by
  unfold dstOf at h
  cases hi : ops[i]? with
  | none => rw [hi] at h; simp at h
  | some o => rw [hi] at h; exact ⟨o, rfl, h⟩

theorem dst_inj (s : Setup P G ops e H cs env Hs val cl) {i j : Nat} {t : Tmp} (hi : dstOf ops i = some t) (hj : dstOf ops j = some t) : i = j := by
  obtain ⟨o, h1, h2⟩ := dstOf_some hi
  obtain ⟨p, h3, h4⟩ := dstOf_some hj
  by_cases hne : i = j
  · exact hne
  · exact absurd h2 (s.facts.dst i j o p t hne h1 h3 h4)

theorem envL_of (s : Setup P G ops e H cs env Hs val cl) {L : Nat → Prop} {i : Nat} {t : Tmp} (hL : L i) (hi : dstOf ops i = some t) : envL ops e val L t = val i := by
  unfold envL
  have h : ∃ i, L i ∧ dstOf ops i = some t := ⟨i, hL, hi⟩
  rw [dif_pos h]
  rw [dst_inj s h.choose_spec.2 hi]

theorem envL_none {L : Nat → Prop} {t : Tmp} (h : ∀ i, L i → dstOf ops i ≠ some t) : envL ops e val L t = e t := by
  unfold envL
  rw [dif_neg]
  rintro ⟨i, h1, h2⟩
  exact h i h1 h2

/-- The reference run's slots, likewise. -/
theorem env_at (s : Setup P G ops e H cs env Hs val cl) : ∀ (i : Nat), i ≤ ops.size → env i = envL ops e val (fun j => j < i)
  | 0, _ => by
    rw [s.e0]
    funext t
    rw [envL_none]
    intro i hi; omega
  | i + 1, hi => by
    obtain ⟨o, h1, h2, _⟩ := s.ran i (by omega)
    have ih := env_at s i (by omega)
    rw [h2, ih]
    funext t
    cases hd : o.dst with
    | none =>
      simp only [updO]
      by_cases hx : ∃ j, j < i ∧ dstOf ops j = some t
      · obtain ⟨j, hj1, hj2⟩ := hx
        rw [envL_of s (L := fun j => j < i) hj1 hj2, envL_of s (L := fun j => j < i + 1) (i := j) (by omega) hj2]
      · rw [envL_none (fun j hj hjd => hx ⟨j, hj, hjd⟩), envL_none]
        intro j hj hjd
        by_cases hji : j = i
        · subst hji
          simp [dstOf, h1, hd] at hjd
        · exact hx ⟨j, by omega, hjd⟩
    | some d =>
      simp only [updO, upd]
      by_cases ht : t = d
      · subst ht
        rw [if_pos rfl, envL_of s (L := fun j => j < i + 1) (i := i) (by omega) (by simp [dstOf, h1, hd])]
      · rw [if_neg ht]
        by_cases hx : ∃ j, j < i ∧ dstOf ops j = some t
        · obtain ⟨j, hj1, hj2⟩ := hx
          rw [envL_of s (L := fun j => j < i) hj1 hj2, envL_of s (L := fun j => j < i + 1) (i := j) (by omega) hj2]
        · rw [envL_none (fun j hj hjd => hx ⟨j, hj, hjd⟩), envL_none]
          intro j hj hjd
          by_cases hji : j = i
          · subst hji
            simp [dstOf, h1, hd] at hjd
            exact ht hjd.symm
          · exact hx ⟨j, by omega, hjd⟩

theorem envL_put (s : Setup P G ops e H cs env Hs val cl) {L : Nat → Prop} {i : Nat} {o : Oper} (hi : ops[i]? = some o) (hL : ¬ L i) : envL ops e val (fun j => L j ∨ j = i) = updO (envL ops e val L) o.dst (val i) := by
  funext t
  cases hd : o.dst with
  | none =>
    simp only [updO]
    by_cases hx : ∃ j, L j ∧ dstOf ops j = some t
    · obtain ⟨j, hj1, hj2⟩ := hx
      rw [envL_of s hj1 hj2, envL_of s (L := fun j => L j ∨ j = i) (.inl hj1) hj2]
    · rw [envL_none (L := L) (fun j hj hjd => hx ⟨j, hj, hjd⟩), envL_none]
      rintro j (hj | rfl) hjd
      · exact hx ⟨j, hj, hjd⟩
      · simp [dstOf, hi, hd] at hjd
  | some d =>
    simp only [updO, upd]
    by_cases ht : t = d
    · subst ht
      rw [if_pos rfl, envL_of s (L := fun j => L j ∨ j = i) (i := i) (.inr rfl) (by simp [dstOf, hi, hd])]
    · rw [if_neg ht]
      by_cases hx : ∃ j, L j ∧ dstOf ops j = some t
      · obtain ⟨j, hj1, hj2⟩ := hx
        rw [envL_of s hj1 hj2, envL_of s (L := fun j => L j ∨ j = i) (.inl hj1) hj2]
      · rw [envL_none (L := L) (fun j hj hjd => hx ⟨j, hj, hjd⟩), envL_none]
        rintro j (hj | rfl) hjd
        · exact hx ⟨j, hj, hjd⟩
        · simp [dstOf, hi, hd] at hjd
          exact ht hjd.symm

/-- A slot that an operation reads holds what it held in the reference run. -/
theorem slot_same (s : Setup P G ops e H cs env Hs val cl) {L : Nat → Prop} {i : Nat} {o : Oper} (hi : ops[i]? = some o) (hL : ¬ L i) (hc : ClosedL ops.toList L) (hc' : ClosedL ops.toList (fun j => L j ∨ j = i))
    {t : Tmp} (ht : t ∈ opTmps ops o) : envL ops e val L t = env i t := by
  have hlt : i < ops.size := (Array.getElem?_eq_some_iff.1 hi).1
  rw [env_at s i (by omega)]
  by_cases hx : ∃ j, dstOf ops j = some t
  · obtain ⟨j, hj⟩ := hx
    obtain ⟨p, hp1, hp2⟩ := dstOf_some hj
    by_cases hji : j = i
    · subst hji
      rw [envL_none, envL_none]
      · intro k hk hkd
        have := dst_inj s hkd hj
        omega
      · intro k hk hkd
        have := dst_inj s hkd hj
        subst this; exact hL hk
    · have hu := s.facts.use i j o p t (fun h => hji h.symm) hi hp1 hp2 ht
      rcases Nat.lt_or_gt_of_ne hji with hlt' | hgt
      · have hLj : L j := by
          rcases hu.1 hlt' _ hc' (.inr rfl) with h | h
          · exact h
          · exact absurd h hji
        rw [envL_of s hLj hj, envL_of s (L := fun k => k < i) hlt' hj]
      · have hLj : ¬ L j := fun hl => hL (hu.2 hgt L hc hl)
        rw [envL_none, envL_none]
        · intro k hk hkd
          have := dst_inj s hkd hj
          omega
        · intro k hk hkd
          have := dst_inj s hkd hj
          subst this; exact hLj hk
  · rw [envL_none (fun j _ hj => hx ⟨j, hj⟩), envL_none (fun j _ hj => hx ⟨j, hj⟩)]

theorem Hs_const (s : Setup P G ops e H cs env Hs val cl) : ∀ (d k : Nat), k + d ≤ ops.size → (∀ j, k ≤ j → j < k + d → (cl j).isW = false) → Hs (k + d) = Hs k
  | 0, k, _, _ => rfl
  | d + 1, k, hk, h => by
    have ih := Hs_const s d k (by omega) (fun j h1 h2 => h j h1 (by omega))
    rw [← ih]
    obtain ⟨o, _, _, hd⟩ := s.ran (k + d) (by omega)
    have hnw := h (k + d) (by omega) (by omega)
    rw [show k + (d + 1) = k + d + 1 from rfl]
    rcases hd with ⟨_, _, he, _⟩ | ⟨_, hd⟩
    · exact he
    · generalize hH : Hs (k + d + 1) = H1 at hd
      generalize hc : cl (k + d) = c at hd hnw
      generalize hv : val (k + d) = v at hd
      cases hd with
      | pst => rfl
      | hst r H' h0 h1 =>
        have hs := hst_says h1
        generalize hcc : hcls G (env (k + d)) (Hs (k + d)) o.op v = cc at hs hnw
        cases cc with
        | pure => exact hs.elim
        | write => simp [Cls.isW] at hnw
        | read => exact hs
        | fresh => exact hs.1
        | rdo id => exact hs.1
        | wro id => simp [Cls.isW] at hnw
      | callP => rfl
      | callW f args ts hop F caps hf r H' hfn c hcc =>
        cases c <;> first | exact hcc | exact hcc.elim | simp [Cls.isW] at hnw

/-- Between two points no step touched an object. -/
theorem Hs_obj (s : Setup P G ops e H cs env Hs val cl) (id : Nat) : ∀ (d k : Nat), k + d ≤ ops.size → (∀ j, k ≤ j → j < k + d → (cl j).isW = true → ∃ id', cl j = .wro id' ∧ id ≠ id') → (Hs (k + d))[id]? = (Hs k)[id]?
  | 0, k, _, _ => rfl
  | d + 1, k, hk, h => by
    have ih := Hs_obj s id d k (by omega) (fun j h1 h2 => h j h1 (by omega))
    rw [← ih]
    obtain ⟨o, _, _, hd⟩ := s.ran (k + d) (by omega)
    have hnw := h (k + d) (by omega) (by omega)
    rw [show k + (d + 1) = k + d + 1 from rfl]
    rcases hd with ⟨_, _, he, _⟩ | ⟨_, hd⟩
    · rw [he]
    · generalize hH : Hs (k + d + 1) = H1 at hd
      generalize hc : cl (k + d) = c at hd hnw
      generalize hv : val (k + d) = v at hd
      cases hd with
      | pst => rfl
      | hst r H' h0 h1 =>
        have hs := hst_says h1
        generalize hcc : hcls G (env (k + d)) (Hs (k + d)) o.op v = cc at hs hnw
        cases cc with
        | pure => exact hs.elim
        | write => obtain ⟨_, h2, _⟩ := hnw rfl; contradiction
        | read => have hs : _ = _ := hs; rw [hs]
        | fresh => rw [hs.1]
        | rdo id => rw [hs.1]
        | wro id' =>
          obtain ⟨_, h2, h3⟩ := hnw rfl
          simp only [Cls.wro.injEq] at h2
          subst h2
          exact hs id h3
      | callP => rfl
      | callW f args ts hop F caps hf r H' hfn c hcc =>
        cases c with
        | read => have hcc : _ = _ := hcc; rw [hcc]
        | write => obtain ⟨_, h2, _⟩ := hnw rfl; contradiction
        | _ => exact hcc.elim

theorem Hs_eq (s : Setup P G ops e H cs env Hs val cl) {k i : Nat} (hk : k ≤ ops.size) (hi : i ≤ ops.size) (h : ∀ j, (k ≤ j ∧ j < i) ∨ (i ≤ j ∧ j < k) → (cl j).isW = false) : Hs k = Hs i := by
  rcases Nat.le_total k i with hle | hle
  · have := Hs_const s (i - k) k (by omega) (fun j h1 h2 => h j (.inl ⟨h1, by omega⟩))
    rw [show k + (i - k) = i from by omega] at this
    exact this.symm
  · have := Hs_const s (k - i) i (by omega) (fun j h1 h2 => h j (.inr ⟨h1, by omega⟩))
    rw [show i + (k - i) = k from by omega] at this
    exact this

theorem Hs_obj_eq (s : Setup P G ops e H cs env Hs val cl) (id : Nat) {k i : Nat} (hk : k ≤ ops.size) (hi : i ≤ ops.size) (h : ∀ j, (k ≤ j ∧ j < i) ∨ (i ≤ j ∧ j < k) → (cl j).isW = true → ∃ id', cl j = .wro id' ∧ id ≠ id') : (Hs k)[id]? = (Hs i)[id]? := by
  rcases Nat.le_total k i with hle | hle
  · have := Hs_obj s id (i - k) k (by omega) (fun j h1 h2 => h j (.inl ⟨h1, by omega⟩))
    rw [show k + (i - k) = i from by omega] at this
    exact this.symm
  · have := Hs_obj s id (k - i) i (by omega) (fun j h1 h2 => h j (.inr ⟨h1, by omega⟩))
    rw [show i + (k - i) = k from by omega] at this
    exact this

/-- How things stand when just the listed operations have been carried out. -/
def Mid (P : Program) (G : Gl) (X : Cxt) (nt : Nat) (ops : Array Oper) (e : Env) (Hs : Nat → List HO) (val : Nat → AV) (cl : Nat → Cls) (L : Nat → Prop) (a : Act) (w : World) : Prop :=
  ClosedL ops.toList L ∧ ∃ K ι k, k ≤ ops.size ∧ (∀ j, j < k → (cl j).isW = true → L j) ∧ (∀ j, k ≤ j → j < ops.size → (cl j).isW = true → ¬ L j) ∧ SR X K ι (Hs k) w ∧ GOk K G ∧ REnv K ι (Hs k).length nt (envL ops e val L) a

theorem mid_step (s : Setup P G ops e H cs env Hs val cl) (hd : ∀ (j : Nat) (o' : Oper) (t : Tmp), ops[j]? = some o' → o'.dst = some t → t < nt) {L : Nat → Prop} {a : Act} {w : World} (hm : Mid P G X nt ops e Hs val cl L a w)
    {i : Nat} (hlt : i < ops.size) (hL : ¬ L i) (hdeps : ∀ o, ops[i]? = some o → ∀ e ∈ o.after.toList, Region.binds .any e = true → L e.on) {K1 : Act → World → Prop} {Q1 : Exit → Act → World → Prop}
    (hk : ∀ a' w', Mid P G X nt ops e Hs val cl (fun j => L j ∨ j = i) a' w' → K1 a' w') : wpOp P ops Q1 i K1 a w := by
  obtain ⟨hc, K, ι, k, hk1, hk2, hk3, hsr, hG, he⟩ := hm
  obtain ⟨o, ho, hnext, hdid⟩ := s.ran i hlt
  have hc' : ClosedL ops.toList (fun j => L j ∨ j = i) := by
    rintro j p hp (hj | rfl) ed hed hb
    · exact .inl (hc j p hp hj ed hed hb)
    · refine .inl (hdeps p (by simpa using hp) ed hed hb)
  have hslot : ∀ t, t ∈ opTmps ops o → envL ops e val L t = env i t := fun t ht => slot_same s ho hL hc hc' ht
  have hops : ∀ x ∈ o.op.operands, ev G (envL ops e val L) x = ev G (env i) x := fun x hx => ev_congr fun t hxt => hslot t (by
    subst hxt
    unfold opTmps
    simp only [List.mem_append, List.mem_filterMap]
    exact .inl ⟨.tmp t, by simpa using hx, rfl⟩)
  have hwant : wantA ops (envL ops e val L) o.guard = wantA ops (env i) o.guard := by
    unfold wantA
    cases hg : o.guard with
    | none => rfl
    | some g =>
      obtain ⟨j, b⟩ := g
      simp only
      cases hdj : dstOf ops j with
      | none => rfl
      | some t =>
        simp only
        rw [hslot t (by unfold opTmps; simp [hg, hdj])]
  have hdo : ∀ t, o.dst = some t → t < nt := fun t ht => hd i o t ho ht
  -- what the next state is
  have fin : ∀ (K' : Mem) (ι' : Nat → Pl) (k' : Nat) (v : Value) (w' : World), k' ≤ ops.size → (∀ j, j < k' → (cl j).isW = true → L j ∨ j = i) → (∀ j, k' ≤ j → j < ops.size → (cl j).isW = true → ¬ (L j ∨ j = i)) →
      SR X K' ι' (Hs k') w' → Mem.le K K' → Pls.le (Hs k).length ι ι' → (Hs k).length ≤ (Hs k').length → RelA K' ι' (Hs k').length (val i) v → K1 (a.put o.dst v) w' := by
    intro K' ι' k' v w' h1 h2 h3 h4 h5 h6 h7 h8
    refine hk _ _ ⟨hc', K', ι', k', h1, h2, h3, h4, hG.mono h5, ?_⟩
    rw [envL_put s ho hL]
    exact (he.mono h5 h7 h6).put hdo h8
  unfold wpOp
  simp only [ho]
  -- the ordering of uses of memory
  have hord : ∀ j, j < ops.size → j ≠ i → clash (cl i) (cl j) = true → (j < i → L j) ∧ (i < j → ¬ L j) := fun j hj hne hcl => by
    have := s.facts.cls i j (fun h => hne h.symm) hlt hj (by rw [s.hcs i hlt, s.hcs j hj]; exact hcl)
    refine ⟨fun hji => ?_, fun hij hLj => hL (this.2 hij L hc hLj)⟩
    rcases this.1 hji _ hc' (.inr rfl) with h | h
    · exact h
    · exact absurd h hne
  rcases hdid with ⟨hwf, hval, hHs, hcl⟩ | ⟨hwt, hdid⟩
  · have hw := yielded_of (o := o) he (by rw [hwant]; exact hwf) hd
    rw [hw]
    simp only [Bool.false_eq_true, if_false]
    refine fin K ι k undef w hk1 (fun j h1 h2 => .inl (hk2 j h1 h2)) (fun j h1 h2 h3 => ?_) hsr (Mem.le_refl K) (Pls.le_refl _ _) (Nat.le_refl _) (by rw [hval]; exact .d _ _ (.tup _ _ rfl (fun i hi => by simp at hi)))
    rintro (h4 | rfl)
    · exact hk3 j h1 h2 h3 h4
    · rw [hcl] at h3; simp [Cls.isW] at h3
  · have hw := yielded_of (o := o) he (by rw [hwant]; exact hwt) hd
    rw [hw]
    simp only [if_true]
    left
    have hρ := ev_rel (G := G) hG he.rel
    have keep : (cl i).isW = false → (∀ j, k ≤ j → j < ops.size → (cl j).isW = true → ¬ (L j ∨ j = i)) := fun hnw j h1 h2 h3 => by
      rintro (h4 | rfl)
      · exact hk3 j h1 h2 h3 h4
      · rw [hnw] at h3; contradiction
    have between : ∀ j, (k ≤ j ∧ j < i) ∨ (i ≤ j ∧ j < k) → (cl j).isW = true → j ≠ i → clash (cl i) (cl j) = true → False := fun j hj hjw hji hcl => by
      have ho := hord j (by omega) hji hcl
      rcases hj with ⟨h1, h2⟩ | ⟨h1, h2⟩
      · exact hk3 j h1 (by omega) hjw (ho.1 h2)
      · exact ho.2 (by omega) (hk2 j h2 hjw)
    have same : (∀ c : Cls, c.isW = true → clash (cl i) c = true) → Hs k = Hs i ∧ ((cl i).isW = true → k ≤ i) := fun hcw => by
      have hki : (cl i).isW = true → k ≤ i := fun hiw => by
        rcases Nat.lt_or_ge i k with h | h
        · exact absurd (hk2 i h hiw) hL
        · exact h
      refine ⟨Hs_eq s hk1 (by omega) fun j hj => ?_, hki⟩
      cases hjw : (cl j).isW with
      | false => rfl
      | true =>
        exfalso
        by_cases hji : j = i
        · subst hji
          have := hki hjw
          omega
        · exact between j hj hjw hji (hcw _ hjw)
    have sameO : ∀ id, cl i = .rdo id → (Hs k)[id]? = (Hs i)[id]? := fun id hci => by
      refine Hs_obj_eq s id hk1 (by omega) fun j hj hjw => ?_
      have hji : j ≠ i := by rintro rfl; rw [hci] at hjw; simp [Cls.isW] at hjw
      cases hcj : cl j with
      | write => exact (between j hj hjw hji (by rw [hci, hcj]; rfl)).elim
      | wro id' =>
        refine ⟨id', rfl, fun he => ?_⟩
        subst he
        exact between j hj hjw hji (by rw [hci, hcj]; simp [clash])
      | _ => rw [hcj] at hjw; simp [Cls.isW] at hjw
    have clashW : ∀ c d : Cls, c.isW = true → d.isW = true → clash c d = true := fun c d h1 h2 => by
      cases c <;> simp [Cls.isW] at h1 <;> cases d <;> simp [Cls.isW] at h2 <;> rfl
    have wnext : (cl i).isW = true → (∀ j, j < i + 1 → (cl j).isW = true → L j ∨ j = i) ∧ (∀ j, i + 1 ≤ j → j < ops.size → (cl j).isW = true → ¬ (L j ∨ j = i)) := fun hiw => by
      constructor
      · intro j hj hjw
        by_cases hji : j = i
        · exact .inr hji
        · exact .inl ((hord j (by omega) hji (clashW _ _ hiw hjw)).1 (by omega))
      · intro j h1 h2 hjw
        rintro (h4 | rfl)
        · exact (hord j h2 (by omega) (clashW _ _ hiw hjw)).2 (by omega) h4
        · omega
    generalize hci : cl i = c at hdid
    generalize hvi : val i = v at hdid fin
    generalize hHi : Hs (i + 1) = H1 at hdid
    cases hdid with
    | pst r hp =>
      rw [← pst_congr hops] at hp
      obtain ⟨u, hrun, hr⟩ := pst_sound (P := P) hp hρ hsr.agree
      exact oper_of_next hrun rfl (fin K ι k u w hk1 (fun j h1 h2 => .inl (hk2 j h1 h2)) (keep (by rw [hci]; rfl)) hsr (Mem.le_refl K) (Pls.le_refl _ _) (Nat.le_refl _) hr)
    | hst r H' h0 hh =>
      have hs := hst_says hh
      generalize hcc : hcls G (env i) (Hs i) o.op v = cc at hs hci
      have readLike : ∀ (hw : (cl i).isW = false), hst P G (env i) (Hs k) o.op = some (v, Hs k) → o.wp P a w K1 Q1 := fun hw hh' => by
        rw [← hst_congr hops] at hh'
        obtain ⟨nx, u, w', hrun, hv, K', ι', s1, s2, s3, s4, s5⟩ := hst_sound (P := P) hh' hsr hρ
        exact oper_of_next hrun hv (fin K' ι' k u w' hk1 (fun j h1 h2 => .inl (hk2 j h1 h2)) (keep hw) s1 s3 s4 (Nat.le_refl _) s2)
      have writeLike : ∀ (hw : (cl i).isW = true), o.wp P a w K1 Q1 := fun hw => by
        obtain ⟨hsame, _⟩ := same (fun c hc => clashW _ _ hw hc)
        rw [← hst_congr hops, ← hsame] at hh
        obtain ⟨nx, u, w', hrun, hv, K', ι', s1, s2, s3, s4, s5⟩ := hst_sound (P := P) hh hsr hρ
        obtain ⟨g1, g2⟩ := wnext hw
        exact oper_of_next hrun hv (fin K' ι' (i + 1) u w' (by omega) g1 g2 (by rw [hHi]; exact s1) s3 s4 (by rw [hHi]; exact s5) (by rw [hHi]; exact s2))
      cases cc with
      | pure => exact hs.elim
      | write => exact writeLike (by rw [hci]; rfl)
      | wro id => exact writeLike (by rw [hci]; rfl)
      | read =>
        have hs : _ = _ := hs
        obtain ⟨hsame, _⟩ := same (fun c hc => by rw [hci]; cases c <;> simp [Cls.isW] at hc <;> rfl)
        rw [hs, ← hsame] at hh
        exact readLike (by rw [hci]; rfl) hh
      | fresh => exact readLike (by rw [hci]; rfl) (hs.2 _)
      | rdo id => exact readLike (by rw [hci]; rfl) (hs.2 _ (sameO id hci))
    | callP f args ts hop F hf ds hds r hpf =>
      have hf' : ev G (envL ops e val L) f = .d (.func F) := by
        rw [hops f (by rw [hop]; simp [Op.operands, Call.operands])]; exact hf
      have hargs : args.toList.map (ev G (envL ops e val L)) = args.toList.map (ev G (env i)) := List.map_congr_left fun x hx => hops x (by rw [hop]; simp [Op.operands, Call.operands]; exact .inr (by simpa using hx))
      have hall := allD_get hds
      have hmap : normAL (args.toList.map (ev G (env i))) = ds.map .d := by
        apply List.ext_getElem?
        intro q
        by_cases hq : q < (normAL (args.toList.map (ev G (env i)))).length
        · have := hall.2 q hq
          rw [List.getElem?_eq_getElem hq, List.getElem?_map, List.getElem?_eq_getElem (by omega)]
          simp only [List.getD_eq_getElem?_getD, List.getElem?_eq_getElem hq, Option.getD_some, List.getElem?_eq_getElem (show q < ds.length by omega)] at this
          rw [this]; rfl
        · rw [List.getElem?_eq_none (by omega), List.getElem?_eq_none (by simp; omega)]
      have hfn := hpf (Hs k)
      rw [← hmap, ← hargs] at hfn
      refine call_sound hop hf' (caps := []) (.inl ⟨rfl, rfl⟩) (by simpa using hfn) hsr hG hρ ?_
      rintro u w' ⟨K', ι', s1, s2, s3, s4, s5⟩
      exact fin K' ι' k u w' hk1 (fun j h1 h2 => .inl (hk2 j h1 h2)) (keep (by rw [hci]; rfl)) s1 s3 s4 (Nat.le_refl _) s2
    | callW f args ts hop F caps hf r H' hfn c hcc =>
      have hf' : ev G (envL ops e val L) f = ev G (env i) f := hops f (by rw [hop]; simp [Op.operands, Call.operands])
      have hargs : args.toList.map (ev G (envL ops e val L)) = args.toList.map (ev G (env i)) := List.map_congr_left fun x hx => hops x (by rw [hop]; simp [Op.operands, Call.operands]; exact .inr (by simpa using hx))
      cases c with
      | write =>
        obtain ⟨hsame, _⟩ := same (fun c hc => clashW _ _ (by rw [hci]; rfl) hc)
        rw [← hsame, ← hargs] at hfn
        obtain ⟨g1, g2⟩ := wnext (by rw [hci]; rfl)
        refine call_sound hop hf' hf hfn hsr hG hρ ?_
        rintro u w' ⟨K', ι', s1, s2, s3, s4, s5⟩
        exact fin K' ι' (i + 1) u w' (by omega) g1 g2 (by rw [hHi]; exact s1) s3 s4 (by rw [hHi]; exact s5) (by rw [hHi]; exact s2)
      | read =>
        have hcc : _ = _ := hcc
        obtain ⟨hsame, _⟩ := same (fun c hc => by rw [hci]; cases c <;> simp [Cls.isW] at hc <;> rfl)
        rw [hcc, ← hsame, ← hargs] at hfn
        refine call_sound hop hf' hf hfn hsr hG hρ ?_
        rintro u w' ⟨K', ι', s1, s2, s3, s4, s5⟩
        exact fin K' ι' k u w' hk1 (fun j h1 h2 => .inl (hk2 j h1 h2)) (keep (by rw [hci]; rfl)) s1 s3 s4 (Nat.le_refl _) s2
      | _ => exact hcc.elim

theorem mid_end (s : Setup P G ops e H cs env Hs val cl) {L : Nat → Prop} {a : Act} {w : World} (hm : Mid P G X nt ops e Hs val cl L a w) (hall : ∀ i, i < ops.size → L i) (hout : ∀ i, L i → i < ops.size) :
    ∃ K ι, SR X K ι (Hs ops.size) w ∧ GOk K G ∧ REnv K ι (Hs ops.size).length nt (env ops.size) a := by
  obtain ⟨hc, K, ι, k, hk1, hk2, hk3, hsr, hG, he⟩ := hm
  have hH : Hs k = Hs ops.size := Hs_eq s hk1 (Nat.le_refl _) fun j hj => by
    cases hjw : (cl j).isW with
    | false => rfl
    | true =>
    exfalso
    rcases hj with ⟨h1, h2⟩ | ⟨h1, h2⟩
    · exact hk3 j h1 h2 hjw (hall j h2)
    · omega
  have hE : envL ops e val L = env ops.size := by
    rw [env_at s _ (Nat.le_refl _)]
    have : L = fun j => j < ops.size := by
      funext j
      exact propext ⟨hout j, hall j⟩
    rw [this]
  rw [hH] at hsr he
  rw [hE] at he
  exact ⟨K, ι, hsr, hG, he⟩

def Lof (listed : Array Bool) (i : Nat) : Prop := listed.getD i false = true

theorem Lof_set {listed : Array Bool} {i : Nat} (hi : i < listed.size) : Lof (listed.setIfInBounds i true) = fun j => Lof listed j ∨ j = i := by
  funext j
  apply propext
  unfold Lof
  simp only [Array.getD_eq_getD_getElem?, Array.getElem?_setIfInBounds]
  by_cases h : i = j
  · subst h; simp [hi]
  · rw [if_neg h]
    constructor
    · exact .inl
    · rintro (h' | h')
      · exact h'
      · exact absurd h'.symm h

theorem wpAny_mid (s : Setup P G ops e H cs env Hs val cl) (hd : ∀ (j : Nat) (o' : Oper) (t : Tmp), ops[j]? = some o' → o'.dst = some t → t < nt) {Q1 : Exit → Act → World → Prop}
    (hq : ∀ a w K ι, SR X K ι (Hs ops.size) w → GOk K G → REnv K ι (Hs ops.size).length nt (env ops.size) a → Q1 .normal a w) :
    ∀ (fuel : Nat) (listed : Array Bool) (a : Act) (w : World), listed.size = ops.size → ((List.range ops.size).filter (fun i => !listed.getD i false)).length ≤ fuel → Mid P G X nt ops e Hs val cl (Lof listed) a w →
      wpAny P .any ops Q1 fuel listed a w := by
  -- when nothing is ready, all is listed
  have stuckAll : ∀ (listed : Array Bool), listed.size = ops.size → Region.ready .any ops listed = [] → ∀ i, i < ops.size → Lof listed i := by
    intro listed hs hr
    intro i
    induction i using Nat.strongRecOn with
    | _ i ih =>
      intro hi
      by_cases hc : Lof listed i
      · exact hc
      · exfalso
        obtain ⟨o, ho⟩ : ∃ o, ops[i]? = some o := ⟨ops[i], by simp [hi]⟩
        have hmem : i ∈ Region.ready .any ops listed := by
          unfold Region.ready
          simp only [List.mem_filter, List.mem_range]
          refine ⟨hi, ?_⟩
          have h1 : listed.getD i true = false := by
            have : listed.getD i false = false := by simpa [Lof] using hc
            simpa [Array.getD, hs, hi] using this
          rw [h1, ho]
          simp only [Bool.not_false, Bool.true_and, Option.map_some, Option.getD_some]
          rw [Array.all_eq_true']
          intro ed hed
          cases hb : Region.binds .any ed with
          | false => rfl
          | true =>
            have hlt := s.facts.deps i o ho ed (by simpa using hed) hb
            have := ih ed.on hlt (by omega)
            simpa [Lof] using this
        rw [hr] at hmem
        simp at hmem
  intro fuel
  induction fuel with
  | zero =>
    intro listed a w hs hf hm
    have hall : ∀ i, i < ops.size → Lof listed i := fun i hi => by
      have h0 : (List.range ops.size).filter (fun i => !listed.getD i false) = [] := List.eq_nil_of_length_eq_zero (by omega)
      rw [List.filter_eq_nil_iff] at h0
      have := h0 i (List.mem_range.2 hi)
      simpa [Lof] using this
    obtain ⟨K, ι, g1, g2, g3⟩ := mid_end s hm hall (fun i hi => by
      unfold Lof at hi
      rcases Nat.lt_or_ge i ops.size with h | h
      · exact h
      · simp [Array.getD, hs, Nat.not_lt.2 h] at hi)
    refine ⟨?_, hq a w K ι g1 g2 g3⟩
    unfold Region.ready
    rw [List.filter_eq_nil_iff]
    intro i hi
    have := hall i (List.mem_range.1 hi)
    have hi' : i < listed.size := by rw [hs]; exact List.mem_range.1 hi
    have h1 : listed.getD i true = true := by
      unfold Lof at this
      simpa [Array.getD, hi'] using this
    rw [h1]
    simp
  | succ fuel ih =>
    intro listed a w hs hf hm
    refine ⟨fun hr => ?_, fun i hi => ?_⟩
    · obtain ⟨K, ι, g1, g2, g3⟩ := mid_end s hm (stuckAll listed hs hr) (fun i hi => by
        unfold Lof at hi
        rcases Nat.lt_or_ge i ops.size with h | h
        · exact h
        · simp [Array.getD, hs, Nat.not_lt.2 h] at hi)
      exact hq a w K ι g1 g2 g3
    · unfold Region.ready at hi
      simp only [List.mem_filter, List.mem_range, Bool.and_eq_true, Bool.not_eq_true'] at hi
      obtain ⟨hlt, hnl, hdep⟩ := hi
      have hnL : ¬ Lof listed i := by
        unfold Lof
        simpa [Array.getD, hs, hlt] using hnl
      refine mid_step s hd hm hlt hnL (fun o ho ed hed hb => ?_) (fun a' w' hm' => ?_)
      · rw [ho] at hdep
        simp only [Option.map_some, Option.getD_some] at hdep
        rw [Array.all_eq_true'] at hdep
        have := hdep ed (by simpa using hed)
        rw [hb] at this
        simpa [Lof] using this
      · refine ih _ a' w' (by simpa using hs) ?_ (by rw [Lof_set (by omega)]; exact hm')
        have hlen : ((List.range ops.size).filter (fun j => !(listed.setIfInBounds i true).getD j false)).length < ((List.range ops.size).filter (fun j => !listed.getD j false)).length := by
          have hsub : (List.range ops.size).filter (fun j => !(listed.setIfInBounds i true).getD j false) = ((List.range ops.size).filter (fun j => !listed.getD j false)).filter (fun j => j != i) := by
            rw [List.filter_filter]
            apply List.filter_congr
            intro j _
            simp only [Array.getD_eq_getD_getElem?, Array.getElem?_setIfInBounds]
            by_cases hij : i = j
            · subst hij; simp [hs, hlt]
            · rw [if_neg hij]
              simp [Ne.symm hij]
          rw [hsub]
          refine List.length_filter_lt_length_iff_exists.2 ⟨i, ?_, by simp⟩
          simp only [List.mem_filter, List.mem_range]
          refine ⟨hlt, ?_⟩
          have : listed.getD i false = false := by simpa [Lof] using hnL
          rw [this]; rfl
        omega

end
end Go.Proofs.YtjmldlknegbimaaDoor.Sx
