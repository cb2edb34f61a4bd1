/- A region whose order is open comes to the same in every order. Own library, part 12. -/
import Derived.Test.YtjmldlknegbimaaDoorA11
set_option linter.unusedVariables false
set_option linter.unusedSimpArgs false
namespace Go.Proofs.YtjmldlknegbimaaDoor.Sx
open Go Go.RowKit

/-- What one executed operation of the reference run did. -/
inductive Did (P : Program) (G : Gl) (op : Op) (e : Env) (H : List HO) : Cls → AV → List HO → Prop
  | pst (r : AV) (h : pst P G e op = some r) : Did P G op e H .pure r H
  | hst (r : AV) (H' : List HO) (h0 : Sx.pst P G e op = none) (h : hst P G e H op = some (r, H')) : Did P G op e H (hcls G e H op r) r H'
  | callP (f : Operand) (args : Array Operand) (ts : Array TypeId) (hop : op = .call ⟨.value f, args, ts⟩) (F : FuncId) (hf : ev G e f = .d (.func F)) (ds : List DV) (hds : allD (normAL (args.toList.map (ev G e))) = some ds) (r : DV)
      (h : PF P G F ds r) : Did P G op e H .pure (.d r) H
  | callW (f : Operand) (args : Array Operand) (ts : Array TypeId) (hop : op = .call ⟨.value f, args, ts⟩) (F : FuncId) (caps : List AV) (hf : (ev G e f = .d (.func F) ∧ caps = []) ∨ ev G e f = .clo F caps) (r : AV) (H' : List HO)
      (h : Fn P G F (normAL (args.toList.map (ev G e)) ++ caps) H r H') (c : Cls) (hc : ClsCall c H H') : Did P G op e H c r H'

section
variable {P : Program} {G : Gl}

theorem stepT_did {op : Op} {e : Env} {H : List HO} {Q : Cls → AV → List HO → Prop} (h : stepT P G op e H Q) : ∃ c r H', Did P G op e H c r H' ∧ Q c r H' := by
  unfold stepT at h
  split at h
  · rename_i r hp
    exact ⟨_, _, _, .pst r hp, h⟩
  · rename_i hp
    split at h
    · rename_i r H' hh
      exact ⟨_, _, _, .hst r H' hp hh, h⟩
    · cases op with
      | call c =>
        obtain ⟨callee, args, ts⟩ := c
        cases callee with
        | value f =>
          simp only [opCallT, callT] at h
          split at h
          · rename_i F ds hf hds
            obtain ⟨r, hr, hq⟩ := h
            exact ⟨_, _, _, .callP f args ts rfl F hf ds hds r hr, hq⟩
          · rename_i F hf hds
            obtain ⟨r, H', c, hr, hc, hq⟩ := h
            exact ⟨_, _, _, .callW f args ts rfl F [] (.inl ⟨hf, rfl⟩) r H' (by simpa using hr) c hc, hq⟩
          · rename_i F caps hf
            obtain ⟨r, H', c, hr, hc, hq⟩ := h
            exact ⟨_, _, _, .callW f args ts rfl F caps (.inr hf) r H' hr c hc, hq⟩
          · contradiction
        | _ => simp only [opCallT] at h
      | _ => simp only [opCallT] at h

/-- The reference run. -/
def Ran (P : Program) (G : Gl) (ops : Array Oper) (env : Nat → Env) (Hs : Nat → List HO) (val : Nat → AV) (cl : Nat → Cls) (i : Nat) : Prop :=
  ∃ o, ops[i]? = some o ∧ env (i + 1) = updO (env i) o.dst (val i) ∧
    ((wantA ops (env i) o.guard = some false ∧ val i = .d (.tup []) ∧ Hs (i + 1) = Hs i ∧ cl i = .pure) ∨
     (wantA ops (env i) o.guard = some true ∧ Did P G o.op (env i) (Hs i) (cl i) (val i) (Hs (i + 1))))

theorem trW_ran (ops : Array Oper) (Q : List Cls → Env → List HO → Prop) : ∀ (l : List Oper) (k : Nat) (cs : List Cls) (e : Env) (H : List HO), l = ops.toList.drop k → k + l.length = ops.size → trW P G ops l cs Q e H →
    ∃ (env : Nat → Env) (Hs : Nat → List HO) (val : Nat → AV) (cl : Nat → Cls), env k = e ∧ Hs k = H ∧ (∀ i, k ≤ i → i < ops.size → Ran P G ops env Hs val cl i) ∧ Q (cs ++ (List.range' k l.length).map cl) (env ops.size) (Hs ops.size)
  | [], k, cs, e, H, hl, hk, h => by
    simp only [List.length_nil, Nat.add_zero] at hk
    refine ⟨fun _ => e, fun _ => H, fun _ => .junk, fun _ => .pure, rfl, rfl, fun i h1 h2 => by omega, ?_⟩
    simpa [trW] using h
  | o :: os, k, cs, e, H, hl, hk, h => by
    have hko : ops[k]? = some o := by
      have : ops.toList[k]? = some o := by
        have := congrArg (fun l : List Oper => l[0]?) hl
        simp at this
        simpa using this.symm
      simpa using this
    have hos : os = ops.toList.drop (k + 1) := by
      have := congrArg List.tail hl
      simpa using this
    simp only [List.length_cons] at hk
    have fin : ∀ (v : AV) (c : Cls) (H' : List HO), ((wantA ops e o.guard = some false ∧ v = .d (.tup []) ∧ H' = H ∧ c = .pure) ∨ (wantA ops e o.guard = some true ∧ Did P G o.op e H c v H')) →
        trW P G ops os (cs ++ [c]) Q (updO e o.dst v) H' →
        ∃ (env : Nat → Env) (Hs : Nat → List HO) (val : Nat → AV) (cl : Nat → Cls), env k = e ∧ Hs k = H ∧ (∀ i, k ≤ i → i < ops.size → Ran P G ops env Hs val cl i) ∧ Q (cs ++ (List.range' k (o :: os).length).map cl) (env ops.size) (Hs ops.size) := by
      intro v c H' hdid hrest
      obtain ⟨env, Hs, val, cl, h1, h2, h3, h4⟩ := trW_ran ops Q os (k + 1) (cs ++ [c]) _ _ hos (by omega) hrest
      refine ⟨fun i => if i = k then e else env i, fun i => if i = k then H else Hs i, fun i => if i = k then v else val i, fun i => if i = k then c else cl i, by simp, by simp, ?_, ?_⟩
      · intro i hi1 hi2
        by_cases hc : i = k
        · subst hc
          refine ⟨o, hko, ?_, ?_⟩
          · simp [h1]
          · simp only [if_true]
            rw [if_neg (by omega), h2]
            exact hdid
        · obtain ⟨o', g1, g2, g3⟩ := h3 i (by omega) hi2
          refine ⟨o', g1, ?_, ?_⟩
          · simp only [if_neg hc]; rw [if_neg (by omega)]; exact g2
          · simp only [if_neg hc]; rw [if_neg (by omega)]; exact g3
      · have e1 : (List.range' k (o :: os).length).map (fun i => if i = k then c else cl i) = c :: (List.range' (k + 1) os.length).map cl := by
          simp only [List.length_cons, List.range'_succ, List.map_cons, if_true]
          congr 1
          apply List.map_congr_left
          intro i hi
          have := List.mem_range'_1.1 hi
          rw [if_neg (by omega)]
        rw [e1]
        simp only []
        rw [if_neg (by omega), if_neg (by omega)]
        simpa using h4
    simp only [trW] at h
    cases hwa : wantA ops e o.guard with
    | none => rw [hwa] at h; exact h.elim
    | some b =>
      rw [hwa] at h
      cases b with
      | true =>
        simp only [gW] at h
        obtain ⟨c, r, H', hd, hr⟩ := stepT_did h
        exact fin r c H' (.inr ⟨hwa, hd⟩) hr
      | false =>
        simp only [gW] at h
        exact fin _ .pure H (.inl ⟨hwa, rfl, rfl, rfl⟩) h

/-! Congruence: only the slots that are read count -/
theorem ev_congr {e e' : Env} {x : Operand} (h : ∀ t, x = .tmp t → e t = e' t) : ev G e x = ev G e' x := by
  cases x with
  | tmp t => exact h t rfl
  | _ => rfl

theorem pst_congr {e e' : Env} {op : Op} (h : ∀ x ∈ op.operands, ev G e x = ev G e' x) : pst P G e op = pst P G e' op := by
  cases op <;> simp only [Op.operands] at h <;> simp only [pst]
  case move x => rw [h x (by simp)]
  case assign x => rw [h x (by simp)]
  case pick c a b => rw [h c (by simp), h a (by simp), h b (by simp)]
  case nilCheck x => rw [h x (by simp)]
  case binOp op t x y yt => rw [h x (by simp), h y (by simp)]
  case unOp op t x => rw [h x (by simp)]
  case convert s d x => rw [h x (by simp)]
  case fieldAddr t x f => rw [h x (by simp)]
  case field t x f => rw [h x (by simp)]
  case indexAddr t x i => rw [h x (by simp), h i (by simp)]
  case index t x i => rw [h x (by simp), h i (by simp)]
  case load t x => rw [h x (by simp)]
  case slice t x lo hi mx =>
    rw [h x (by simp)]
    have e1 : lo.map (ev G e) = lo.map (ev G e') := by cases lo with | none => rfl | some y => simp [h y (by simp)]
    have e2 : hi.map (ev G e) = hi.map (ev G e') := by cases hi with | none => rfl | some y => simp [h y (by simp)]
    have e3 : mx.map (ev G e) = mx.map (ev G e') := by cases mx with | none => rfl | some y => simp [h y (by simp)]
    rw [e1, e2, e3]
  case extract x i => rw [h x (by simp)]
  case makeFunc fn first caps =>
    rw [List.map_congr_left fun x hx => h x (by simp [Array.mem_toList_iff.1 hx]), List.map_congr_left (l := caps.toList) fun x hx => h x (by simp [Array.mem_toList_iff.1 hx])]
  case build t parts =>
    rw [List.map_congr_left fun p hp => by rw [h p.2 (by simp; exact ⟨p.1, Array.mem_toList_iff.1 hp⟩)]]
  case makeInterface t x => rw [h x (by simp)]
  case call c =>
    obtain ⟨callee, args, ts⟩ := c
    cases callee with
    | value f => rfl
    | invoke r m => rfl
    | builtin b =>
      simp only [Call.operands] at h
      obtain ⟨args⟩ := args
      obtain ⟨ts⟩ := ts
      cases b <;> (try rfl)
      · -- len
        rcases args with _ | ⟨x, _ | ⟨y, r⟩⟩ <;> rcases ts with _ | ⟨t, _ | ⟨t', r'⟩⟩ <;> first | rfl | (simp only [pst]; rw [h x (by simp)])
      · rcases args with _ | ⟨x, _ | ⟨y, _ | ⟨z, r⟩⟩⟩ <;> first | rfl | (simp only [pst]; rw [h x (by simp), h y (by simp)])
      · rcases args with _ | ⟨x, _ | ⟨y, _ | ⟨z, r⟩⟩⟩ <;> first | rfl | (simp only [pst]; rw [h x (by simp), h y (by simp)])

theorem hst_congr {e e' : Env} {H : List HO} {op : Op} (h : ∀ x ∈ op.operands, ev G e x = ev G e' x) : hst P G e H op = hst P G e' H op := by
  cases op <;> simp only [Op.operands] at h <;> simp only [hst]
  case box t x => rw [h x (by simp)]
  case load t x => rw [h x (by simp)]
  case store t x y => rw [h x (by simp), h y (by simp)]
  case makeSlice t l c => rw [h l (by simp), h c (by simp)]
  case makeMap t r => cases r <;> rfl
  case lookup t x k ok => rw [h x (by simp), h k (by simp)]
  case mapUpdate t m k v => rw [h m (by simp), h k (by simp), h v (by simp)]
  case buildSlice t len parts =>
    rw [List.map_congr_left fun p hp => by rw [h p.2 (by simp; exact ⟨p.1, Array.mem_toList_iff.1 hp⟩)]]
  case convert s d x => rw [h x (by simp)]
  case call c =>
    obtain ⟨callee, args, ts⟩ := c
    cases callee with
    | value f => rfl
    | invoke r m => rfl
    | builtin b =>
      simp only [Call.operands] at h
      obtain ⟨args⟩ := args
      obtain ⟨ts⟩ := ts
      cases b <;> (try rfl)
      rcases args with _ | ⟨x, _ | ⟨y, _ | ⟨z, r⟩⟩⟩ <;> rcases ts with _ | ⟨t, _ | ⟨t', _ | ⟨t'', r'⟩⟩⟩ <;> first | rfl | (simp only [hst]; rw [h x (by simp), h y (by simp)])

theorem push_get {H : List HO} {o : HO} {j : Nat} (h : j ≠ H.length) : (H ++ [o])[j]? = H[j]? := by
  rcases Nat.lt_or_gt_of_ne h with h | h
  · rw [List.getElem?_append_left h]
  · rw [List.getElem?_eq_none (by simp; omega), List.getElem?_eq_none (by omega)]

theorem set_get {H : List HO} {o : HO} {i j : Nat} (h : j ≠ i) : (H.set i o)[j]? = H[j]? := by
  rw [List.getElem?_set_ne (Ne.symm h)]

/-- What the class of a step says. -/
def ClsSays (P : Program) (G : Gl) (e : Env) (H : List HO) (op : Op) (r : AV) (H' : List HO) : Cls → Prop
  | .pure => False
  | .write => True
  | .read => H' = H
  | .fresh => H' = H ∧ ∀ H1, hst P G e H1 op = some (r, H1)
  | .rdo id => H' = H ∧ ∀ H1 : List HO, H1[id]? = H[id]? → hst P G e H1 op = some (r, H1)
  | .wro id => ∀ j, j ≠ id → H'[j]? = H[j]?

theorem apB_says {H H' : List HO} {z by_ : Nat} {s r : AV} {new : List (List DV)} (h : apB H z by_ s new = some (r, H')) (e : Env) (op : Op) : ClsSays P G e H op r H' (apC s H.length) := by
  unfold apB at h
  split at h
  · split at h
    · simp only [Option.some.injEq, Prod.mk.injEq] at h
      obtain ⟨rfl, rfl⟩ := h
      exact fun j hj => push_get hj
    · contradiction
  · split at h
    · split at h
      · simp only [Option.some.injEq, Prod.mk.injEq] at h
        obtain ⟨rfl, rfl⟩ := h
        exact fun j hj => set_get hj
      · contradiction
    · contradiction
  · contradiction

theorem stA_other {H H' : List HO} {id off : Nat} {vc : List AV} (h : stA H id off vc = some H') : ∀ j, j ≠ id → H'[j]? = H[j]? := by
  unfold stA at h
  split at h
  · split at h
    · simp only [Option.some.injEq] at h; subst h
      exact fun j hj => set_get hj
    · contradiction
  · contradiction

theorem hst_says {e : Env} {H H' : List HO} {op : Op} {r : AV} (h : hst P G e H op = some (r, H')) : ClsSays P G e H op r H' (hcls G e H op r) := by
  cases op
  case alloc t =>
    simp only [hst] at h
    split at h
    · simp only [Option.some.injEq, Prod.mk.injEq] at h
      obtain ⟨rfl, rfl⟩ := h
      exact fun j hj => push_get hj
    · contradiction
  case box t x =>
    simp only [hst] at h
    split at h
    · simp only [Option.some.injEq, Prod.mk.injEq] at h
      obtain ⟨rfl, rfl⟩ := h
      exact fun j hj => push_get hj
    · contradiction
  case load t x =>
    simp only [hst, hcls, ldB] at h ⊢
    split at h
    · rename_i id off hx
      rw [hx]
      split at h
      · rename_i cs hid
        split at h
        · rename_i y hy
          simp only [Option.some.injEq, Prod.mk.injEq] at h
          obtain ⟨rfl, rfl⟩ := h
          refine ⟨rfl, fun H1 h1 => ?_⟩
          simp only [hst, ldB, hx, h1, hid, hy]
        · contradiction
      · contradiction
    · contradiction
  case store t x y =>
    simp only [hst, hcls, stB] at h ⊢
    split at h
    · rename_i id off vc hx hvc
      rw [hx]
      split at h
      · split at h
        · rename_i H2 hs
          simp only [Option.some.injEq, Prod.mk.injEq] at h
          obtain ⟨rfl, rfl⟩ := h
          exact stA_other hs
        · contradiction
      · contradiction
    · contradiction
  case convert s d x =>
    simp only [hst, cvH] at h
    simp only [hcls, ClsSays]
    split at h
    · split at h
      · split at h
        · split at h
          · split at h
            · simp only [Option.some.injEq, Prod.mk.injEq] at h; exact h.2.symm
            · contradiction
          · contradiction
        · contradiction
      · contradiction
    · contradiction
  case lookup t x k ok =>
    simp only [hst, hcls, luA] at h ⊢
    split at h
    · rename_i kt et id s htm hx hk
      rw [hx]
      split at h
      · rename_i z es h1 h2 h3
        simp only [Option.some.injEq, Prod.mk.injEq] at h
        obtain ⟨rfl, rfl⟩ := h
        refine ⟨rfl, fun H1 hh => ?_⟩
        simp only [hst, luA, htm, hx, hk, h1, h2, hh, h3]
      · contradiction
    · contradiction
  case buildSlice t len parts =>
    simp only [hst] at h
    simp only [hcls]
    split
    · rename_i x
      have key : H' = H ∧ ∀ H1, bsA P H1 t len (parts.toList.map fun p => (p.1, ev G e p.2)) = some (.d x, H1) := by
        unfold bsA at h ⊢
        cases h1 : tk P t with
        | none => simp [h1] at h
        | some k => cases k with
          | slice e' =>
            simp only [h1] at h ⊢
            cases h2 : tsz P e' with
            | none => simp [h2] at h
            | some s => cases h3 : tz P e' with
              | none => simp [h2, h3] at h
              | some zv =>
                simp only [h2, h3] at h ⊢
                by_cases hc : len * s ≤ 16777216 ∧ zv.cells.size = s
                · simp only [if_pos hc] at h ⊢
                  cases h4 : fillA (fun i => some (i * s, s)) (zerosA len (ofVL zv.cells.toList)) (parts.toList.map fun p => (p.1, ev G e p.2)) with
                  | none => simp [h4] at h
                  | some cs =>
                    simp only [h4] at h ⊢
                    cases h5 : allD cs with
                    | none => simp [h5] at h
                    | some ds =>
                      simp only [h5, Option.some.injEq, Prod.mk.injEq] at h ⊢
                      exact ⟨h.2.symm, fun H1 => ⟨h.1, trivial⟩⟩
                · simp [if_neg hc] at h
          | _ => simp [h1] at h
      exact ⟨key.1, fun H1 => by simp only [hst]; exact key.2 H1⟩
    · trivial
  case call c =>
    obtain ⟨callee, args, ts⟩ := c
    cases callee with
    | value f => trivial
    | invoke r m => trivial
    | builtin b =>
      obtain ⟨args⟩ := args
      obtain ⟨ts⟩ := ts
      cases b
      case append =>
        rcases args with _ | ⟨s, _ | ⟨x, _ | ⟨z, r'⟩⟩⟩
        · trivial
        · trivial
        · simp only [hcls]
          rcases ts with _ | ⟨tS, _ | ⟨tX, _ | ⟨t'', r'⟩⟩⟩
          · simp [hst] at h
          · simp [hst] at h
          · simp only [hst, apA] at h
            split at h
            · split at h
              · split at h
                · split at h
                  · split at h
                    · exact apB_says h e _
                    · contradiction
                  · contradiction
                · contradiction
              · contradiction
            · contradiction
          · simp [hst] at h
        · trivial
      all_goals trivial
  all_goals trivial

/-! What must come first -/
def ClosedL (ops : List Oper) (L : Nat → Prop) : Prop := ∀ (i : Nat) (o : Oper), ops[i]? = some o → L i → ∀ e ∈ o.after.toList, Region.binds .any e = true → L e.on

theorem fold_bits (acc : List Nat) (j : Nat) : ∀ (l : List Edge) (s : Nat), (l.foldl (fun s e => if Region.binds .any e then s ||| 2 ^ e.on ||| acc.getD e.on 0 else s) s).testBit j = true →
    s.testBit j = true ∨ ∃ e ∈ l, Region.binds .any e = true ∧ (e.on = j ∨ (acc.getD e.on 0).testBit j = true)
  | [], s, h => .inl h
  | e :: l, s, h => by
    simp only [List.foldl_cons] at h
    rcases fold_bits acc j l _ h with h | ⟨e', he', hb, hj⟩
    · split at h
      · rename_i hb
        simp only [Nat.testBit_or, Bool.or_eq_true, Nat.testBit_two_pow, decide_eq_true_eq] at h
        rcases h with (h | h) | h
        · exact .inl h
        · exact .inr ⟨e, by simp, hb, .inl h⟩
        · exact .inr ⟨e, by simp, hb, .inr h⟩
      · exact .inl h
    · exact .inr ⟨e', by simp [he'], hb, hj⟩

theorem ancB_spec (all : List Oper) : ∀ (os : List Oper) (acc : List Nat), os = all.drop acc.length →
    (∀ i j, i < acc.length → (acc.getD i 0).testBit j = true → ∀ L, ClosedL all L → L i → L j) →
    ∀ i j, ((ancB os acc).getD i 0).testBit j = true → ∀ L, ClosedL all L → L i → L j
  | [], acc, ho, hacc, i, j, h, L, hL, hi => by
    simp only [ancB] at h
    by_cases hc : i < acc.length
    · exact hacc i j hc h L hL hi
    · rw [List.getD_eq_getElem?_getD, List.getElem?_eq_none (by omega)] at h
      simp at h
  | o :: os, acc, ho, hacc, i, j, h, L, hL, hi => by
    have hio : all[acc.length]? = some o := by
      have := congrArg (fun l : List Oper => l[0]?) ho
      simp at this
      exact this.symm
    have hos : os = all.drop (acc.length + 1) := by
      have := congrArg List.tail ho
      simpa using this
    simp only [ancB] at h
    refine ancB_spec all os _ (by simpa using hos) ?_ i j h L hL hi
    intro i' j' hi' hb L' hL' hLi
    by_cases hc : i' < acc.length
    · rw [List.getD_eq_getElem?_getD, List.getElem?_append_left hc, ← List.getD_eq_getElem?_getD] at hb
      exact hacc i' j' hc hb L' hL' hLi
    · have hi'' : i' = acc.length := by simp at hi'; omega
      subst hi''
      rw [List.getD_eq_getElem?_getD, List.getElem?_append_right (Nat.le_refl _)] at hb
      simp only [Nat.sub_self, List.getElem?_cons_zero, Option.getD_some] at hb
      rcases fold_bits acc j' _ _ hb with h0 | ⟨e, he, hbe, hj⟩
      · simp at h0
      · have hLe := hL' _ o hio hLi e he hbe
        rcases hj with rfl | hj
        · exact hLe
        · by_cases hce : e.on < acc.length
          · exact hacc e.on j' hce hj L' hL' hLe
          · rw [List.getD_eq_getElem?_getD, List.getElem?_eq_none (by omega)] at hj
            simp at hj

/-- What the check of a region says. -/
structure DrawFacts (ops : Array Oper) (cs : List Cls) : Prop where
  deps : ∀ (i : Nat) (o : Oper), ops[i]? = some o → ∀ e ∈ o.after.toList, Region.binds .any e = true → e.on < i
  dst : ∀ (i j : Nat) (o p : Oper) (d : Tmp), i ≠ j → ops[i]? = some o → ops[j]? = some p → p.dst = some d → o.dst ≠ some d
  use : ∀ (i j : Nat) (o p : Oper) (d : Tmp), i ≠ j → ops[i]? = some o → ops[j]? = some p → p.dst = some d → d ∈ opTmps ops o →
    (j < i → ∀ L, ClosedL ops.toList L → L i → L j) ∧ (i < j → ∀ L, ClosedL ops.toList L → L j → L i)
  cls : ∀ (i j : Nat), i ≠ j → i < ops.size → j < ops.size → clash (cs.getD i .pure) (cs.getD j .pure) = true →
    (j < i → ∀ L, ClosedL ops.toList L → L i → L j) ∧ (i < j → ∀ L, ClosedL ops.toList L → L j → L i)

theorem drawOk_facts {ops : Array Oper} {cs : List Cls} (h : drawOk ops cs = true) : DrawFacts ops cs := by
  unfold drawOk at h
  simp only [List.all_eq_true, List.mem_range, Bool.and_eq_true, Bool.or_eq_true, Bool.not_eq_true', decide_eq_true_eq, beq_iff_eq] at h
  have han : ∀ i j, ((ancB ops.toList []).getD i 0).testBit j = true → ∀ L, ClosedL ops.toList L → L i → L j := ancB_spec ops.toList ops.toList [] (by simp) (fun i j hi => by simp at hi)
  have hlt : ∀ {i : Nat} {o : Oper}, ops[i]? = some o → i < ops.size ∧ ops.getD i default = o := fun {i o} hi => by
    obtain ⟨h1, h2⟩ := Array.getElem?_eq_some_iff.1 hi
    exact ⟨h1, by simp [Array.getD, h1, h2]⟩
  have ord : ∀ i j, (if j < i then ((ancB ops.toList []).getD i 0).testBit j else ((ancB ops.toList []).getD j 0).testBit i) = true →
      (j < i → ∀ L, ClosedL ops.toList L → L i → L j) ∧ (i < j → ∀ L, ClosedL ops.toList L → L j → L i) := fun i j hb => by
    constructor
    · intro hji L hL hi
      rw [if_pos hji] at hb
      exact han i j hb L hL hi
    · intro hij L hL hj
      rw [if_neg (by omega)] at hb
      exact han j i hb L hL hj
  constructor
  · intro i o hi e he hb
    obtain ⟨h1, h2⟩ := hlt hi
    have := (h i h1).1.1 e (by rw [h2]; exact he)
    rcases this with hc | hc
    · rw [hb] at hc; contradiction
    · exact hc
  · intro i j o p d hne hi hj hp
    obtain ⟨h1, h2⟩ := hlt hi
    obtain ⟨h3, h4⟩ := hlt hj
    rcases (h i h1).2 j h3 with hc | hc
    · exact absurd hc hne
    · have := hc.1
      rw [h4, h2, hp] at this
      simp only [Bool.and_eq_true, bne_iff_ne] at this
      exact this.2
  · intro i j o p d hne hi hj hp hd
    obtain ⟨h1, h2⟩ := hlt hi
    obtain ⟨h3, h4⟩ := hlt hj
    rcases (h i h1).2 j h3 with hc | hc
    · exact absurd hc hne
    · have := hc.1
      rw [h4, h2, hp] at this
      simp only [Bool.and_eq_true, Bool.or_eq_true, Bool.not_eq_true'] at this
      rcases this.1 with hn | hb
      · have hcn : (opTmps ops o).contains d = true := by simpa using hd
        rw [hcn] at hn; contradiction
      · exact ord i j hb
  · intro i j hne hi hj hcl
    rcases (h i hi).2 j hj with hc | hc
    · exact absurd hc hne
    · rcases hc.2 with hb | hn
      · exact ord i j hb
      · rw [hcl] at hn; contradiction

end
end Go.Proofs.YtjmldlknegbimaaDoor.Sx
