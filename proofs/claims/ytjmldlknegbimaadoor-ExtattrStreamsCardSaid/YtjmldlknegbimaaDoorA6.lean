/- One pure step, and its soundness. Own library, part 6. -/
import Derived.Test.YtjmldlknegbimaaDoorA5
set_option linter.unusedVariables false
set_option linter.unusedSimpArgs false
namespace Go.Proofs.YtjmldlknegbimaaDoor.Sx
open Go Go.RowKit

/-- What the package-level variables hold that are read. -/
abbrev Gl := Nat → Option (List DV)

def ev (G : Gl) (e : Env) : Operand → AV
  | .tmp t => e t
  | .const v => ofV v
  | .global g => match G g with | some cs => .d (.eptr cs 0) | none => .junk
  | .func f => .d (.func f)

def GOk (K : Mem) (G : Gl) : Prop := ∀ g cs, G g = some cs → Rel K (.eptr cs 0) (.pointer (some ⟨g, 0, none⟩))

theorem GOk.mono {K K' : Mem} {G : Gl} (h : GOk K G) (hk : Mem.le K K') : GOk K' G := fun g cs e => (h g cs e).mono hk

def minA (x y : AV) : Option AV :=
  match x, y with
  | .d (.int k a), .d (.int _ b) => some (.d (.int k (if b < a then b else a)))
  | _, _ => none
def maxA (x y : AV) : Option AV :=
  match x, y with
  | .d (.int k a), .d (.int _ b) => some (.d (.int k (if b > a then b else a)))
  | _, _ => none

def ldA (P : Program) (t : TypeId) (x : AV) : Option AV :=
  match x with
  | .d (.eptr cs off) => partA P t (cs.map .d) off
  | _ => none

def lnA (P : Program) (t : TypeId) (x : AV) : Option AV :=
  match tk P t with
  | some k => if lenK x k then lenA x else none
  | none => none

def miA (P : Program) (t : TypeId) (x : AV) : Option AV :=
  match x with
  | .d y => if P.concrete t then some (.d (.ifc t y)) else none
  | _ => none

def pst (P : Program) (G : Gl) (e : Env) : Op → Option AV
  | .move x => some (ev G e x)
  | .assign x => some (ev G e x)
  | .pick c a b => pkA (ev G e c) (ev G e a) (ev G e b)
  | .nilCheck x => nckA (ev G e x)
  | .binOp op t x y _ => binA P op t (ev G e x) (ev G e y) (isC x || isC y)
  | .unOp op _ x => unA op (ev G e x)
  | .convert s d x => cvA P s d (ev G e x)
  | .fieldAddr t x f => faA P t (ev G e x) f
  | .field t x f => fieldA P t (ev G e x) f
  | .indexAddr t x i => iaA P t (ev G e x) (ev G e i)
  | .index t x i => ixA P t (ev G e x) (ev G e i)
  | .load t x => ldA P t (ev G e x)
  | .slice t x lo hi mx => slA P t (ev G e x) (lo.map (ev G e)) (hi.map (ev G e)) (mx.map (ev G e))
  | .extract x i => exA (ev G e x) i
  | .makeFunc fn first caps => mfA fn (first.toList.map (ev G e)) (caps.toList.map (ev G e))
  | .build t parts => bldA P t (parts.toList.map fun p => (p.1, ev G e p.2))
  | .makeInterface t x => miA P t (ev G e x)
  | .call ⟨.builtin .len, ⟨[x]⟩, ⟨[t]⟩⟩ => lnA P t (ev G e x)
  | .call ⟨.builtin .min, ⟨[x, y]⟩, _⟩ => minA (ev G e x) (ev G e y)
  | .call ⟨.builtin .max, ⟨[x, y]⟩, _⟩ => maxA (ev G e x) (ev G e y)
  | _ => none

section
variable {P : Program} {K : Mem} {ι : Nat → Pl} {n : Nat} {G : Gl}

theorem ev_rel {e : Env} {a : Act} (hG : GOk K G) (he : ∀ t, RelA K ι n (e t) (a.tmps.getD t undef)) : ∀ x, RelA K ι n (ev G e x) (a.eval x)
  | .tmp t => he t
  | .const v => ofV_rel K ι n v
  | .global g => by
    cases hg : G g with
    | some cs =>
      have : ev G e (.global g) = .d (.eptr cs 0) := by simp [ev, hg]
      rw [this]
      exact .d _ _ (hG g cs hg)
    | none =>
      have : ev G e (.global g) = .junk := by simp [ev, hg]
      rw [this]
      exact .junk _
  | .func f => .d _ _ (.func f)

theorem opt_rel {e : Env} {ρ : Operand → Value} (hρ : ∀ x, RelA K ι n (ev G e x) (ρ x)) (o : Option Operand) : RelO K ι n (o.map (ev G e)) (o.map ρ) := by
  cases o with
  | none => exact .none
  | some x => exact .some _ _ (hρ x)

theorem pst_sound {e : Env} {o : Oper} {r : AV} {ρ : Operand → Value} {w : World} (h : pst P G e o.op = some r) (hρ : ∀ x, RelA K ι n (ev G e x) (ρ x)) (hw : Agree K w) :
    ∃ v, (execOp ρ o).run P w = .ok (.value v) w ∧ RelA K ι n r v := by
  have wrap : ∀ {s : Sem Value} {v : Value}, s.run P w = .ok v w → ((do pure (.value (← s))) : Sem Next).run P w = .ok (.value v) w := fun hs => by simp [hs]
  obtain ⟨dst, op, T, pos, after, guard⟩ := o
  simp only at h
  unfold pst at h
  split at h
  · simp only [Option.some.injEq] at h; subst h
    exact ⟨_, rfl, hρ _⟩
  · simp only [Option.some.injEq] at h; subst h
    exact ⟨_, rfl, hρ _⟩
  · rename_i c a b
    unfold pkA at h
    split at h
    · rename_i t hc
      simp only [Option.some.injEq] at h; subst h
      have hcc := hρ c
      rw [hc] at hcc
      have hg := hcc.get
      generalize hv : ρ c = vc at hg
      cases hg
      refine ⟨if t then ρ a else ρ b, by simp [execOp, hv, asBool], ?_⟩
      cases t
      · exact hρ b
      · exact hρ a
    · contradiction
  · rename_i x
    have hx := hρ x
    unfold nckA at h
    split at h
    · rename_i id off he
      simp only [Option.some.injEq] at h; subst h
      rw [he] at hx
      generalize hv : ρ x = v at hx
      cases hx with
      | ptr _ _ hi => exact ⟨_, by simp only [execOp, hv]; rfl, .ptr _ _ hi⟩
    · rename_i cs off he
      simp only [Option.some.injEq] at h; subst h
      rw [he] at hx
      generalize hv : ρ x = v at hx
      have hg := hx.get
      cases hg with
      | eptr _ _ a val hK hr => exact ⟨_, by simp only [execOp, hv]; rfl, .d _ _ (.eptr _ _ _ _ hK hr)⟩
    · rename_i f he
      simp only [Option.some.injEq] at h; subst h
      rw [he] at hx
      generalize hv : ρ x = v at hx
      have hg := hx.get
      cases hg
      exact ⟨_, by simp only [execOp, hv]; rfl, .d _ _ (.func _)⟩
    · rename_i f cs he
      simp only [Option.some.injEq] at h; subst h
      rw [he] at hx
      generalize hv : ρ x = v at hx
      cases hx with
      | clo _ _ vs hl hr => exact ⟨_, by simp only [execOp, hv]; rfl, .clo _ _ _ hl hr⟩
    · contradiction
  · rename_i op t x y yt
    obtain ⟨u, hu, hr⟩ := binA_sound (P := P) (ox := x) (oy := y) h (hρ x) (hρ y) (by simp) w
    exact ⟨u, wrap hu, hr⟩
  · rename_i op t x
    obtain ⟨u, hu, hr⟩ := unA_sound (P := P) h (hρ x) w
    exact ⟨u, wrap hu, hr⟩
  · rename_i s d x
    obtain ⟨u, hu, hr⟩ := cvA_sound (P := P) h (hρ x) hw
    exact ⟨u, wrap hu, hr⟩
  · rename_i t x f
    obtain ⟨u, hu, hr⟩ := faA_sound (P := P) h (hρ x) w
    exact ⟨u, wrap hu, hr⟩
  · rename_i t x f
    obtain ⟨u, hu, hr⟩ := fieldA_sound (P := P) h (hρ x) w
    exact ⟨u, wrap hu, hr⟩
  · rename_i t x i
    obtain ⟨u, hu, hr⟩ := iaA_sound (P := P) h (hρ x) (hρ i) w
    exact ⟨u, wrap hu, hr⟩
  · rename_i t x i
    obtain ⟨u, hu, hr⟩ := ixA_sound (P := P) h (hρ x) (hρ i) w
    exact ⟨u, wrap hu, hr⟩
  · rename_i t x
    unfold ldA at h
    split at h
    · rename_i cs off he
      have hx := hρ x
      rw [he] at hx
      generalize hv : ρ x = v at hx
      have hg := hx.get
      cases hg with
      | eptr _ _ a val hK hr =>
        obtain ⟨u, hu, hr'⟩ := load_sound (P := P) (K := K) (ι := ι) (n := n) (a := a) (val := val) h (fun j hj => hw _ _ (hK j (by simpa using hj)))
          (fun i hi => by rw [getD_map' AV.d cs i .nilp _ (by simpa using hi)]; exact .d _ _ (hr i (by simpa using hi)))
        refine ⟨u, wrap ?_, hr'⟩
        simpa [Instr.loadAt, Instr.sureAddr, hv] using hu
    · contradiction
  · rename_i t x lo hi mx
    obtain ⟨u, hu, hr⟩ := slA_sound (P := P) h (hρ x) (opt_rel hρ lo) (opt_rel hρ hi) (opt_rel hρ mx) w
    exact ⟨u, wrap hu, hr⟩
  · rename_i x i
    obtain ⟨u, hu, hr⟩ := exA_sound (P := P) h (hρ x) w
    exact ⟨u, wrap hu, hr⟩
  · rename_i fn first caps
    unfold mfA at h
    split at h
    · rename_i f hf
      have hfirst : first = #[] := by
        have : first.toList = [] := by simpa using hf
        exact Array.toList_eq_nil_iff.1 this
      subst hfirst
      split at h
      · rename_i hc
        simp only [Option.some.injEq] at h; subst h
        have hcaps : caps = #[] := by
          have : caps.toList = [] := by simpa using hc
          exact Array.toList_eq_nil_iff.1 this
        subst hcaps
        exact ⟨.func (.func f) #[] #[], by simp [execOp, Instr.makeFunc], .d _ _ (.func _)⟩
      · simp only [Option.some.injEq] at h; subst h
        refine ⟨.func (.func f) #[] (caps.map ρ), by simp [execOp, Instr.makeFunc], .clo _ _ _ (by simp) fun i hi => ?_⟩
        have hi' : i < caps.size := by simpa using hi
        have e1 : (caps.toList.map (ev G e)).getD i .junk = ev G e caps[i] := by simp [List.getD_eq_getElem?_getD, hi']
        have e2 : (caps.map ρ).getD i undef = ρ caps[i] := by simp [Array.getD, hi']
        rw [e1, e2]
        exact hρ _
    · contradiction
  · rename_i t parts
    obtain ⟨u, hu, hr⟩ := bldA_sound (P := P) (K := K) (ι := ι) (n := n) (vparts := parts.map fun p => (p.1, ρ p.2)) h (by simp) (by
      intro i x y hx hy
      simp only [List.getElem?_map, Option.map_eq_some_iff, Array.toList_map] at hx hy
      obtain ⟨p, hp, rfl⟩ := hx
      obtain ⟨q, hq, rfl⟩ := hy
      rw [hp] at hq
      simp only [Option.some.injEq] at hq; subst hq
      exact ⟨rfl, hρ _⟩) w
    exact ⟨u, wrap hu, hr⟩
  · rename_i t x
    unfold miA at h
    split at h
    · rename_i y he
      split at h
      · rename_i hc
        simp only [Option.some.injEq] at h; subst h
        have hx := hρ x
        rw [he] at hx
        exact ⟨_, wrap (run_makeInterface w t _ hc), .d _ _ (.ifc _ _ _ hx.get)⟩
      · contradiction
    · contradiction
  · rename_i x t
    unfold lnA at h
    split at h
    · rename_i k hk
      split at h
      · rename_i hkk
        obtain ⟨u, hu, hr⟩ := lenA_sound (P := P) hk hkk h (hρ x) T w
        refine ⟨u, ?_, hr⟩
        have hm : Array.map ρ ⟨[x]⟩ = #[ρ x] := by simp
        simp only [execOp, resolve, Sem.run_bind, Sem.run_pure, Result.andThen_ok, invoke, builtin, hm, hu]
      · contradiction
    · contradiction
  · rename_i x y ts
    have hx := hρ x
    have hy := hρ y
    unfold minA at h
    split at h
    · rename_i k a k' b h1 h2
      simp only [Option.some.injEq] at h; subst h
      rw [h1] at hx
      rw [h2] at hy
      generalize hv : ρ x = vx at hx
      generalize hv' : ρ y = vy at hy
      have g1 := hx.get
      have g2 := hy.get
      cases g1
      cases g2
      refine ⟨.int k (if b < a then b else a), ?_, .d _ _ (.int _ _)⟩
      simp [execOp, resolve, invoke, builtin, hv, hv', run_min_int2]
    · contradiction
  · rename_i x y ts
    have hx := hρ x
    have hy := hρ y
    unfold maxA at h
    split at h
    · rename_i k a k' b h1 h2
      simp only [Option.some.injEq] at h; subst h
      rw [h1] at hx
      rw [h2] at hy
      generalize hv : ρ x = vx at hx
      generalize hv' : ρ y = vy at hy
      have g1 := hx.get
      have g2 := hy.get
      cases g1
      cases g2
      refine ⟨.int k (if b > a then b else a), ?_, .d _ _ (.int _ _)⟩
      simp [execOp, resolve, invoke, builtin, hv, hv', run_max_int2]
    · contradiction
  · contradiction

end
end Go.Proofs.YtjmldlknegbimaaDoor.Sx
