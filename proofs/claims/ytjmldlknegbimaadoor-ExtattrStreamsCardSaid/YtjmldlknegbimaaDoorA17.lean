/- Lists, options, numbers in the rule set; the rule for loops. Own library, part 17. -/
import Derived.Test.YtjmldlknegbimaaDoorA16
set_option linter.unusedVariables false
set_option linter.unusedSimpArgs false
namespace Go.Proofs.YtjmldlknegbimaaDoor.Sx
open Go Go.RowKit

attribute [go_sem] List.length_cons List.length_nil List.nil_append List.cons_append List.getElem?_cons_zero List.getElem?_cons_succ List.getElem?_nil List.set_cons_zero List.set_cons_succ List.take_succ_cons List.take_zero List.take_nil
  List.drop_zero List.drop_succ_cons List.drop_nil List.all_cons List.all_nil List.append_nil List.map_cons List.map_nil Option.map_some Option.map_none Bool.and_self Bool.and_true Bool.true_and Bool.and_false Bool.false_and Bool.or_true Bool.or_false Bool.true_or Bool.false_or
  true_and and_true and_self not_true_eq_false not_false_eq_true beq_self_eq_true Bool.not_true Bool.not_false beq_true beq_false Bool.not_not decide_true decide_false  ne_eq
  Nat.add_zero Nat.zero_add Nat.zero_le Option.some.injEq List.length_append List.length_map List.length_set List.length_replicate Nat.le_refl exists_prop Int.toNat_natCast Bool.false_eq_true Bool.true_eq_false if_true if_false reduceCtorEq

@[go_sem] theorem getD_cons_zero' {α : Type} (x : α) (l : List α) (d : α) : (x :: l).getD 0 d = x := (rfl)

@[go_sem] theorem drawQ_eq (ops : Array Oper) (Q : Exit → Env → List HO → Prop) (cs : List Cls) (e : Env) (H : List HO) : drawQ ops Q cs e H = (drawOk ops cs = true ∧ Q .normal e H) := (rfl)
theorem toProp {p : Prop} [Decidable p] (h : decide p = true) : p := of_decide_eq_true h
theorem toNot {p : Prop} [Decidable p] (h : decide p = false) : ¬ p := of_decide_eq_false h

section
variable {P : Program} {G : Gl} {n0 : Nat} {b : Bool} {o : Oper} {all : Array Oper} {os : List Oper} {e : Env} {H : List HO} {cs : List Cls}
theorem gO_not {Q : Env → List HO → Prop} (h1 : b = false → gO P G (some true) all o os Q e H) (h2 : b = true → gO P G (some false) all o os Q e H) : gO P G (some (!b)) all o os Q e H := by
  cases b
  · exact h1 rfl
  · exact h2 rfl
theorem gT_not {Q : List Cls → Env → List HO → Prop} (h1 : b = false → gT P G (some true) all o os cs Q e H) (h2 : b = true → gT P G (some false) all o os cs Q e H) : gT P G (some (!b)) all o os cs Q e H := by
  cases b
  · exact h1 rfl
  · exact h2 rfl
theorem condW_not {x y : Code} {Q : Exit → Env → List HO → Prop} (h1 : b = false → wpc P G n0 x Q e H) (h2 : b = true → wpc P G n0 y Q e H) : condW P G n0 (.d (.bool (!b))) x y Q e H := by
  cases b
  · exact h1 rfl
  · exact h2 rfl
end

section
variable {P : Program} {H : List HO} {kp : AV → Prop} {kh : AV → List HO → Prop}
theorem cvT_int {s t : TypeId} {ks kt : IntKind} (h : tk P s = some (.int ks)) (h' : tk P t = some (.int kt)) (H : List HO) (k : IntKind) (n : Int) (kp : AV → Prop) (kh : AV → List HO → Prop) : cvT P H s t (.d (.int k n)) kp kh = kp (.d (.int kt (kt.wrap n))) := cvT_some (by simp [cvA, h, h'])
theorem cvT_str {s t : TypeId} (h : tk P s = some .string) (h' : tk P t = some .string) (H : List HO) (x : List UInt8) (kp : AV → Prop) (kh : AV → List HO → Prop) : cvT P H s t (.d (.str x)) kp kh = kp (.d (.str x)) := cvT_some (by simp [cvA, h, h'])
def cvTB (H : List HO) (x : AV) (kp : AV → Prop) (kh : AV → List HO → Prop) : Prop :=
  match x with
  | .d (.sl _ es) => (match bytesOf es with | some l => kp (.d (.str l)) | none => False)
  | .tsl _ es => (match bytesOf es with | some l => kp (.d (.str l)) | none => False)
  | x => oH (cvBy H x) kh
theorem cvT_bytes {s t e : TypeId} (h : tk P s = some (.slice e)) (h' : tk P t = some .string) (he : tk P e = some (.int .u8)) (H : List HO) (x : AV) (kp : AV → Prop) (kh : AV → List HO → Prop) : cvT P H s t x kp kh = cvTB H x kp kh := by
  cases x with
  | d x => cases x with
    | sl st es => simp only [cvT, cvA, cvH, h, h', he, cvTB, cvB]; cases bytesOf es <;> rfl
    | _ => simp [cvT, cvA, cvH, h, h', cvTB, cvBy]
  | tsl tok es => simp only [cvT, cvA, cvH, h, h', he, cvTB, cvB]; cases bytesOf es <;> rfl
  | bsl id off len cap =>
    simp only [cvT, cvA, cvH, h, h', he, cvTB, cvBy]
    cases H[id]? with
    | none => rfl
    | some q => cases q <;> rfl
  | _ => simp [cvT, cvA, cvH, h, h', cvTB, cvBy]
@[go_sem] theorem cvTB_map (st : St) (l : List UInt8) : cvTB H (.d (.sl st (l.map byteEl))) kp kh = kp (.d (.str l)) := by simp [cvTB, bytesOf_map]
@[go_sem] theorem cvTB_tmap (tok : Nat) (l : List UInt8) : cvTB H (.tsl tok (l.map byteEl)) kp kh = kp (.d (.str l)) := by simp [cvTB, bytesOf_map]
@[go_sem] theorem cvTB_bsl (a b c d : Nat) : cvTB H (.bsl a b c d) kp kh = oH (cvBy H (.bsl a b c d)) kh := (rfl)
@[go_sem] theorem cvTB_one (st : St) (b : UInt8) : cvTB H (.d (.sl st [[.int .u8 (b.toNat : Int)]])) kp kh = kp (.d (.str [b])) := by simp [cvTB, bytesOf]
@[go_sem] theorem cvBy_one (st : St) (b : UInt8) : cvBy H (.d (.sl st [[.int .u8 (b.toNat : Int)]])) = some (.d (.str [b]), H) := by simp [cvBy, bytesOf]
end

@[go_sem] theorem elOk_nil_q (z : Nat) : elOk z [] = true := (rfl)
@[go_sem] theorem elOk_cons_q (z : Nat) (c : List DV) (r : List (List DV)) : elOk z (c :: r) = (c.length == z && c.all oneD && elOk z r) := by simp [elOk]
@[go_sem] theorem oneD_def (x : DV) : oneD x = oneA (.d x) := (rfl)
@[go_sem] theorem szOk_nil_q (z : Nat) : szOk z [] = true := (rfl)
@[go_sem] theorem szOk_cons_q (z : Nat) (c : List DV) (r : List (List DV)) : szOk z (c :: r) = (c.length == z && szOk z r) := by simp [szOk]
@[go_sem] theorem szOk_append_q (z : Nat) (a b : List (List DV)) : szOk z (a ++ b) = (szOk z a && szOk z b) := by simp [szOk]
@[go_sem] theorem elOk_append_q (z : Nat) (a b : List (List DV)) : elOk z (a ++ b) = (elOk z a && elOk z b) := by simp [elOk]
@[go_sem] theorem szOk_bytes (l : List UInt8) : szOk 1 (l.map byteEl) = true := by simp [szOk, byteEl]
@[go_sem] theorem elOk_bytes' (l : List UInt8) : elOk 1 (l.map byteEl) = true := elOk_bytes l
@[go_sem] theorem zerosA_zero (zs : List AV) : zerosA 0 zs = [] := (rfl)
@[go_sem] theorem zerosA_succ (n : Nat) (zs : List AV) : zerosA (n + 1) zs = zs ++ zerosA n zs := by simp [zerosA, List.replicate_succ]
@[go_sem] theorem min_8_16 : min 8 16 = 8 := (rfl)
@[go_sem] theorem min_1_16 : min 1 16 = 1 := (rfl)
@[go_sem] theorem min_15_16 : min 15 16 = 15 := (rfl)

/-- What the slots hold that count. -/
def At : List (Nat × AV) → Env → Prop
  | [], _ => True
  | (t, v) :: r, e => e t = v ∧ At r e
theorem At_nil (e : Env) : At [] e := trivial
@[go_sem] theorem At_nil_eq (e : Env) : At [] e = True := (rfl)
@[go_sem] theorem At_cons (t : Nat) (v : AV) (r : List (Nat × AV)) (e : Env) : At ((t, v) :: r) e = (e t = v ∧ At r e) := (rfl)

def ltAll (m : Nat) : List (Nat × AV) → Bool
  | [] => true
  | (_, v) :: r => v.lt m && ltAll m r
def ltBoxes (m : Nat) : List HO → Bool
  | [] => true
  | .box cs :: r => AV.ltL m cs && ltBoxes m r
  | _ :: r => ltBoxes m r

theorem ltBoxes_get {m : Nat} : ∀ {H : List HO} {i : Nat} {cs : List AV}, ltBoxes m H = true → H[i]? = some (.box cs) → AV.ltL m cs = true
  | [], i, cs, _, h => by simp at h
  | q :: r, 0, cs, hb, h => by
    simp at h; subst h
    simp [ltBoxes] at hb; exact hb.1
  | q :: r, i + 1, cs, hb, h => by
    have : ltBoxes m r = true := by
      cases q <;> simp [ltBoxes] at hb <;> first | exact hb.2 | exact hb
    exact ltBoxes_get this (by simpa using h)

/-- The slots that count, the others empty. -/
def keepE (l : List (Nat × AV)) (e : Env) : Env := fun t => if l.any (fun p => p.1 == t) then e t else .junk
theorem keepE_at {e : Env} : ∀ {l l' : List (Nat × AV)}, (∀ p ∈ l', p ∈ l) → At l' e → At l' (keepE l e)
  | l, [], _, _ => trivial
  | l, (t, v) :: r, hs, h => by
    refine ⟨?_, keepE_at (fun p hp => hs p (by simp [hp])) h.2⟩
    have : l.any (fun p => p.1 == t) = true := List.any_eq_true.2 ⟨(t, v), hs _ (by simp), by simp⟩
    simp only [keepE, this, if_true]
    exact h.1
theorem At_get {e : Env} {m : Nat} : ∀ {l : List (Nat × AV)} {t : Nat}, At l e → ltAll m l = true → l.any (fun p => p.1 == t) = true → (e t).lt m = true
  | [], t, _, _, h => by simp at h
  | (u, v) :: r, t, ha, hl, h => by
    simp only [ltAll, Bool.and_eq_true] at hl
    simp only [List.any_cons, Bool.or_eq_true] at h
    rcases h with h | h
    · have : u = t := by simpa using h
      subst this
      rw [ha.1]; exact hl.1
    · exact At_get ha.2 hl.2 h

theorem Weak.keep {n0 : Nat} {e : Env} {H J R : List HO} {l : List (Nat × AV)} (hH : H = J ++ R) (hn : n0 ≤ J.length) (ha : At l e) (hl : ltAll J.length l = true) (hb : ltBoxes J.length J = true) : Weak n0 e H (keepE l e) J := by
  subst hH
  refine ⟨hn, by simp, fun i hi => .inr ⟨by rw [List.getElem?_append_left hi], fun cs hcs => ?_⟩, fun t => ?_⟩
  · rw [List.getElem?_append_left hi] at hcs
    exact ltBoxes_get hb hcs
  · by_cases h : l.any (fun p => p.1 == t) = true
    · exact .inr ⟨by simp [keepE, h], At_get ha hl h⟩
    · exact .inl (by simp [keepE, h])

variable {P : Program} {G : Gl} {n0 : Nat} {H : List HO} {e : Env} {Q : Exit → Env → List HO → Prop} {body : Code}

/-- The end of a round. -/
def roundW {S : Type} (vals : S → List (Nat × AV)) (J : S → List HO) (Inv : S → Prop) (μ : S → Nat) (s : S) (n0 : Nat) (Q : Exit → Env → List HO → Prop) : Exit → Env → List HO → Prop := fun x e H =>
  match x with
  | .normal => ∃ s', Inv s' ∧ μ s' < μ s ∧ (∃ R, H = J s' ++ R) ∧ At (vals s') e
  | x => Q x e H
section
variable {S : Type} {vals : S → List (Nat × AV)} {J : S → List HO} {Inv : S → Prop} {μ : S → Nat} {s : S}
@[go_sem] theorem roundW_normal : roundW vals J Inv μ s n0 Q .normal e H = ∃ s', Inv s' ∧ μ s' < μ s ∧ (∃ R, H = J s' ++ R) ∧ At (vals s') e := (rfl)
@[go_sem] theorem roundW_ret : roundW vals J Inv μ s n0 Q .ret e H = Q .ret e H := (rfl)
@[go_sem] theorem roundW_exit (id : Nat) : roundW vals J Inv μ s n0 Q (.exit id) e H = Q (.exit id) e H := (rfl)

theorem opsW_mono {all : Array Oper} : ∀ (os : List Oper) (Q Q' : Env → List HO → Prop) (e : Env) (H : List HO), opsW P G all os Q e H → (∀ e H, Q e H → Q' e H) → opsW P G all os Q' e H
  | [], Q, Q', e, H, h, hq => hq _ _ h
  | o :: os, Q, Q', e, H, h, hq => by
    simp only [opsW] at h ⊢
    cases hw : wantA all e o.guard with
    | none => rw [hw] at h; exact h.elim
    | some b =>
      rw [hw] at h
      cases b with
      | false => exact opsW_mono os Q Q' _ _ h hq
      | true =>
        simp only [gW] at h ⊢
        simp only [stepW] at h ⊢
        cases hp : pst P G e o.op with
        | some r => rw [hp] at h; exact opsW_mono os Q Q' _ _ h hq
        | none =>
          rw [hp] at h
          simp only at h ⊢
          cases hh : hst P G e H o.op with
          | some r => rw [hh] at h; exact opsW_mono os Q Q' _ _ h hq
          | none =>
            rw [hh] at h
            simp only at h ⊢
            unfold opCall at h ⊢
            split
            · rename_i f args ts hop
              rw [hop] at h
              simp only at h
              unfold callW at h ⊢
              split
              · rename_i F hF
                rw [hF] at h
                obtain ⟨r, H', h1, h2⟩ := h
                exact ⟨r, H', h1, opsW_mono os Q Q' _ _ h2 hq⟩
              · rename_i F caps hF
                rw [hF] at h
                obtain ⟨r, H', h1, h2⟩ := h
                exact ⟨r, H', h1, opsW_mono os Q Q' _ _ h2 hq⟩
              · rename_i hne hne'
                revert h
                cases hv : ev G e f with
                | d x => cases x <;> first | (intro h; exact h) | exact absurd hv (hne _)
                | clo F caps => exact absurd hv (hne' _ _)
                | _ => exact id
            · rename_i hne
              revert h
              split
              · rename_i f args ts hop; exact absurd hop (hne _ _ _)
              · exact id

theorem trW_mono {all : Array Oper} : ∀ (os : List Oper) (cs : List Cls) (Q Q' : List Cls → Env → List HO → Prop) (e : Env) (H : List HO), trW P G all os cs Q e H → (∀ cs e H, Q cs e H → Q' cs e H) → trW P G all os cs Q' e H
  | [], cs, Q, Q', e, H, h, hq => hq _ _ _ h
  | o :: os, cs, Q, Q', e, H, h, hq => by
    simp only [trW] at h ⊢
    cases hw : wantA all e o.guard with
    | none => rw [hw] at h; exact h.elim
    | some b =>
      rw [hw] at h
      cases b with
      | false => exact trW_mono os _ Q Q' _ _ h hq
      | true =>
        simp only [gW] at h ⊢
        simp only [stepT] at h ⊢
        cases hp : pst P G e o.op with
        | some r => rw [hp] at h; exact trW_mono os _ Q Q' _ _ h hq
        | none =>
          rw [hp] at h
          simp only at h ⊢
          cases hh : hst P G e H o.op with
          | some r => rw [hh] at h; exact trW_mono os _ Q Q' _ _ h hq
          | none =>
            rw [hh] at h
            simp only at h ⊢
            unfold opCallT at h ⊢
            split
            · rename_i f args ts hop
              rw [hop] at h
              simp only at h
              unfold callT at h ⊢
              split
              · rename_i F ds hF hds
                rw [hF, hds] at h
                obtain ⟨r, h1, h2⟩ := h
                exact ⟨r, h1, trW_mono os _ Q Q' _ _ h2 hq⟩
              · rename_i F hF hds
                rw [hF, hds] at h
                obtain ⟨r, H', c, h1, hc, h2⟩ := h
                exact ⟨r, H', c, h1, hc, trW_mono os _ Q Q' _ _ h2 hq⟩
              · rename_i F caps o hF
                rw [hF] at h
                obtain ⟨r, H', c, h1, hc, h2⟩ := h
                exact ⟨r, H', c, h1, hc, trW_mono os _ Q Q' _ _ h2 hq⟩
              · rename_i hne hne' hne''
                revert h
                cases hv : ev G e f with
                | d x => cases x with
                  | func F =>
                    cases hd : allD (normAL (args.toList.map (ev G e))) with
                    | none => first | exact (hne _ _ hv hd).elim | exact (hne' _ _ hv hd).elim | exact (hne'' _ _ hv hd).elim | exact (hne _ hv hd).elim | exact (hne' _ hv hd).elim | exact (hne'' _ hv hd).elim
                    | some ds => first | exact (hne _ _ hv hd).elim | exact (hne' _ _ hv hd).elim | exact (hne'' _ _ hv hd).elim | exact (hne _ hv hd).elim | exact (hne' _ hv hd).elim | exact (hne'' _ hv hd).elim
                  | _ => exact id
                | clo F caps => first | exact (hne _ _ hv).elim | exact (hne' _ _ hv).elim | exact (hne'' _ _ hv).elim
                | _ => exact id
            · rename_i hne
              revert h
              split
              · rename_i f args ts hop; exact absurd hop (hne _ _ _)
              · exact id

theorem wpc_mono : ∀ (c : Code) (Q Q' : Exit → Env → List HO → Prop) (e : Env) (H : List HO), wpc P G n0 c Q e H → (∀ x e H, Q x e H → Q' x e H) → wpc P G n0 c Q' e H := by
  intro c
  induction c with
  | skip => intro Q Q' e H h hq; exact hq _ _ _ h
  | label l => intro Q Q' e H h hq; exact hq _ _ _ h
  | ret => intro Q Q' e H h hq; exact hq _ _ _ h
  | exit id => intro Q Q' e H h hq; exact hq _ _ _ h
  | seq x y ihx ihy =>
    intro Q Q' e H h hq
    rw [wpc] at h ⊢
    refine ihx _ _ _ _ h ?_
    intro x e H hx
    cases x with
    | normal => exact ihy _ _ _ _ hx hq
    | _ => exact hq _ _ _ hx
  | cond c x y ihx ihy =>
    intro Q Q' e H h hq
    rw [wpc] at h ⊢
    revert h
    cases ev G e c with
    | d v => cases v with
      | bool t => cases t with
        | true => exact fun h => ihx _ _ _ _ h hq
        | false => exact fun h => ihy _ _ _ _ h hq
      | _ => exact id
    | _ => exact id
  | block id x ih =>
    intro Q Q' e H h hq
    rw [wpc] at h ⊢
    refine ih _ _ _ _ h ?_
    intro x e H hx
    cases x with
    | exit id' =>
      simp only at hx ⊢
      by_cases hid : id' = id
      · rw [if_pos hid] at hx ⊢; exact hq _ _ _ hx
      · rw [if_neg hid] at hx ⊢; exact hq _ _ _ hx
    | _ => exact hq _ _ _ hx
  | loop x ih =>
    intro Q Q' e H h hq
    rw [wpc] at h ⊢
    obtain ⟨e0, H0, I, n, h1, h2, h3⟩ := h
    refine ⟨e0, H0, I, n, h1, h2, fun n e' H' hI => ih _ _ _ _ (h3 n e' H' hI) ?_⟩
    intro x e H hx
    cases x with
    | normal => exact hx
    | _ => exact hq _ _ _ hx
  | region id ops draw =>
    intro Q Q' e H h hq
    cases draw with
    | true =>
      rw [wpc] at h ⊢
      exact trW_mono _ _ _ _ _ _ h (fun cs e H hx => ⟨hx.1, hq _ _ _ hx.2⟩)
    | false =>
      rw [wpc] at h ⊢
      exact opsW_mono _ _ _ _ _ h (fun e H hx => hq _ _ _ hx)
  | rangeFunc f ps x y => intro Q Q' e H h; simp only [wpc] at h
  | scope x => intro Q Q' e H h; simp only [wpc] at h
  | goto l => intro Q Q' e H h; simp only [wpc] at h
  | refuse why => intro Q Q' e H h; simp only [wpc] at h

/-- The rule for a loop: the states, what the slots and the heap hold at each, what a round does. -/
theorem wpc_loop (S : Type) (vals : S → List (Nat × AV)) (J : S → List HO) (Inv : S → Prop) (μ : S → Nat) (s0 : S) {e0 : Env} {H0 : List HO} (hg : Ghost e H e0 H0)
    (hlt : ∀ s, Inv s → n0 ≤ (J s).length ∧ ltAll (J s).length (vals s) = true ∧ ltBoxes (J s).length (J s) = true)
    (h0 : Inv s0) (hH : H0 = J s0) (hv : At (vals s0) e0)
    (step : ∀ s e, Inv s → At (vals s) e → wpc P G n0 body (roundW vals J Inv μ s n0 Q) e (J s)) : wpc P G n0 (.loop body) Q e H := by
  rw [wpc]
  refine ⟨e0, H0, fun n e H => ∃ s, Inv s ∧ H = J s ∧ At (vals s) e ∧ n = μ s, μ s0, hg, ⟨s0, h0, hH, hv, rfl⟩, ?_⟩
  rintro n e' H' ⟨s, hI, rfl, hA, rfl⟩
  refine wpc_mono _ _ _ _ _ (step s e' hI hA) ?_
  intro x e'' H'' hx
  cases x with
  | normal =>
    obtain ⟨s', i1, i2, ⟨R, i3⟩, i4⟩ := hx
    obtain ⟨w1, w2, w3⟩ := hlt s' i1
    exact ⟨μ s', keepE (vals s') e'', J s', i2, Weak.keep i3 w1 i4 w2 w3, s', i1, rfl, keepE_at (fun p hp => hp) i4, rfl⟩
  | _ => exact hx
end

end Go.Proofs.YtjmldlknegbimaaDoor.Sx
