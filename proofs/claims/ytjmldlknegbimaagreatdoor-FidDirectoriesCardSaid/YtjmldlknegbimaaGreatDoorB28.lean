/- Directories written and read: fid.EncodeAll, fid.DecodeAll. -/
import Derived.Test.YtjmldlknegbimaaGreatDoorB27
set_option linter.unusedVariables false
set_option linter.unusedSimpArgs false
namespace Go.Proofs.YtjmldlknegbimaaGreatDoor.Sx
open Go Go.RowKit
variable {G : Gl}
def hasB (bl : List Int) (off : Nat) : Bool := decide (off / 2048 < bl.length)
def locB (bl : List Int) (off : Nat) : Int := bl.getD (off / 2048) 0
theorem p_block (bl : List Int) (off : Nat) (h : off < 2 ^ 40) (hl : bl.length < 2 ^ 40) : PF Tryz.prog G 46 [.sl .any (bl.map intEl), .int .i64 off] (.tup [.int .i64 (locB bl off), .bool (hasB bl off)]) := by
  have e1 : IntKind.i64.wrap ((off : Int).tdiv 2048) = ((off / 2048 : Nat) : Int) := by rw [Int.tdiv_eq_ediv_of_nonneg (by omega), wrap_i64 (by omega) (by omega)]; omega
  refine PF.of_body mo Tryz.func46 rfl (by kernel_rfl) (by kernel_rfl) (by simp [Tryz.ntmps46]) ?_; simp only [go_sem, Nat.reduceBEq, Nat.reduceAdd, Nat.reduceMul, Nat.reduceSub, Nat.reduceLeDiff, Int.reduceAdd, Int.reduceSub, Int.reduceMul, Int.reduceLE, Int.reduceLT, Int.reduceEq, Int.reduceNeg, Int.reduceToNat, Int.reduceTDiv, Int.reduceTMod, reduceIte, Nat.reduceEqDiff, Nat.reducePow, Int.reducePow, Tryz.results46]
  simp only [go_sem, Nat.reduceBEq, Nat.reduceAdd, Nat.reduceMul, Nat.reduceSub, Nat.reduceLeDiff, Int.reduceAdd, Int.reduceSub, Int.reduceMul, Int.reduceLE, Int.reduceLT, Int.reduceEq, Int.reduceNeg, Int.reduceToNat, Int.reduceTDiv, Int.reduceTMod, reduceIte, Nat.reduceEqDiff, Nat.reducePow, Int.reducePow, e1]
  (first | with_reducible refine condW_not ?_ ?_ | refine condW_split ?_ ?_) <;> intro h1 <;> simp only [go_sem, Nat.reduceBEq, Nat.reduceAdd, Nat.reduceMul, Nat.reduceSub, Nat.reduceLeDiff, Int.reduceAdd, Int.reduceSub, Int.reduceMul, Int.reduceLE, Int.reduceLT, Int.reduceEq, Int.reduceNeg, Int.reduceToNat, Int.reduceTDiv, Int.reduceTMod, reduceIte, Nat.reduceEqDiff, Nat.reducePow, Int.reducePow, e1, h1]
  · have := toProp h1
    have hb : hasB bl off = false := by simp [hasB]; omega
    have hc : locB bl off = 0 := by simp [locB, List.getD_eq_getElem?_getD, List.getElem?_eq_none (show bl.length ≤ off / 2048 by omega)]
    rw [hb, hc]
  · have := toNot h1
    have hlt : off / 2048 < bl.length := by omega
    have hb : hasB bl off = true := by simp [hasB]; omega
    refine ⟨⟨by omega, by omega⟩, ?_⟩
    have hc : locB bl off = bl[off / 2048] := by simp [locB, List.getD_eq_getElem?_getD, hlt]
    rw [hb, hc]
/-- What is read of a directory: the error, the entries ahead of it, the entry at the error. -/
def scanS (fin : Bool) (cnt : Nat) (hb : Bool) (d : Option (Ent × Nat)) (go : Nat → Int × List Ent × Ent) : Int × List Ent × Ent :=
  if fin = true then (0, [], ent0)
  else if cnt = 1024 then (7, [], (d.map Prod.fst).getD ent0)
  else if hb = false then (2, [], (d.map Prod.fst).getD ent0)
  else match d with
    | none => (10, [], ent0)
    | some r => ((go r.2).1, r.1 :: (go r.2).2.1, (go r.2).2.2)
def scanN (s : List UInt8) (bl : List Int) : Nat → Nat → Nat → Int × List Ent × Ent
  | 0, _, _ => (0, [], ent0)
  | k + 1, off, cnt => scanS (decide (s.length ≤ off)) cnt (hasB bl off) (decF (s.drop off) (locB bl off)) fun n => scanN s bl k (off + n) (cnt + 1)
theorem scanS_7 {cnt : Nat} {hb : Bool} {d : Option (Ent × Nat)} {go : Nat → Int × List Ent × Ent} {f : Ent} (hc : cnt = 1024) (hf : (d.map Prod.fst).getD ent0 = f) : scanS false cnt hb d go = (7, [], f) := by
  unfold scanS; rw [if_neg (by decide), if_pos hc, hf]
theorem scanS_2 {cnt : Nat} {d : Option (Ent × Nat)} {go : Nat → Int × List Ent × Ent} {f : Ent} (hc : cnt ≠ 1024) (hf : (d.map Prod.fst).getD ent0 = f) : scanS false cnt false d go = (2, [], f) := by
  unfold scanS; rw [if_neg (by decide), if_neg hc, if_pos rfl, hf]
theorem scanS_10 {cnt : Nat} {go : Nat → Int × List Ent × Ent} (hc : cnt ≠ 1024) : scanS false cnt true none go = (10, [], ent0) := by
  unfold scanS; rw [if_neg (by decide), if_neg hc, if_neg (by decide)]
theorem scanS_go {cnt : Nat} {go : Nat → Int × List Ent × Ent} {r : Ent × Nat} (hc : cnt ≠ 1024) : scanS false cnt true (some r) go = ((go r.2).1, r.1 :: (go r.2).2.1, (go r.2).2.2) := by
  unfold scanS; rw [if_neg (by decide), if_neg hc, if_neg (by decide)]
section
variable {s : List UInt8} {bl : List Int} {off cnt : Nat}
theorem scanN_succ (k : Nat) : scanN s bl (k + 1) off cnt = scanS (decide (s.length ≤ off)) cnt (hasB bl off) (decF (s.drop off) (locB bl off)) fun n => scanN s bl k (off + n) (cnt + 1) := rfl
theorem scanN_end (k : Nat) (h : ¬ off < s.length) : scanN s bl k off cnt = (0, [], ent0) := by
  cases k with
  | zero => rfl
  | succ k => rw [scanN_succ, decide_eq_true (show s.length ≤ off by omega)]; rfl
theorem scanN_7 (k : Nat) {f : Ent} (h : off < s.length) (hc : cnt = 1024) (hf : ((decF (s.drop off) (locB bl off)).map Prod.fst).getD ent0 = f) : scanN s bl (k + 1) off cnt = (7, [], f) := by
  rw [scanN_succ, decide_eq_false (show ¬ s.length ≤ off by omega)]; exact scanS_7 hc hf
theorem scanN_2 (k : Nat) {f : Ent} (h : off < s.length) (hc : cnt ≠ 1024) (hb : hasB bl off = false) (hf : ((decF (s.drop off) (locB bl off)).map Prod.fst).getD ent0 = f) : scanN s bl (k + 1) off cnt = (2, [], f) := by
  rw [scanN_succ, decide_eq_false (show ¬ s.length ≤ off by omega), hb]; exact scanS_2 hc hf
theorem scanN_10 (k : Nat) (h : off < s.length) (hc : cnt ≠ 1024) (hb : hasB bl off = true) (hf : decF (s.drop off) (locB bl off) = none) : scanN s bl (k + 1) off cnt = (10, [], ent0) := by
  rw [scanN_succ, decide_eq_false (show ¬ s.length ≤ off by omega), hb, hf]; exact scanS_10 hc
theorem scanN_go (k : Nat) {f : Ent} {sz : Nat} (h : off < s.length) (hc : cnt ≠ 1024) (hb : hasB bl off = true) (hf : decF (s.drop off) (locB bl off) = some (f, sz)) : scanN s bl (k + 1) off cnt = ((scanN s bl k (off + sz) (cnt + 1)).1, f :: (scanN s bl k (off + sz) (cnt + 1)).2.1, (scanN s bl k (off + sz) (cnt + 1)).2.2) := by
  rw [scanN_succ, decide_eq_false (show ¬ s.length ≤ off by omega), hb, hf]; exact scanS_go hc
end
def scanF (s : List UInt8) (bl : List Int) : Int × List Ent × Ent := scanN s bl (s.length + 1) 0 0
def decAllV (s : List UInt8) (bl : List Int) : DV := if (scanF s bl).1 = 0 then .tup [.sl .any ((scanF s bl).2.1.map entEl), .int .i64 0] else .tup [.sl .any [], .int .i64 (scanF s bl).1]
theorem decF_size {s : List UInt8} {loc : Int} {r : Ent × Nat} (h : decF s loc = some r) : 38 ≤ r.2 ∧ r.2 ≤ s.length := by
  unfold decF at h
  split at h
  · cases h
  split at h
  · cases h
  split at h
  · cases h
  split at h
  · cases h
  split at h
  · cases h
  simp only [Option.some.injEq] at h
  subst h
  simp only [roundN, endF] at *
  omega
theorem p_fdec2 (s : List UInt8) (loc : Int) (hs : s.length < 2 ^ 30) : ∃ (f : Ent) (sz : Nat) (er : Int), PF Tryz.prog GT 11 [.str s, .int .i64 loc] (.tup [.agg (entEl f), .int .i64 sz, .int .i64 er]) ∧
    ((decF s loc = none ∧ f = ent0 ∧ sz = 0 ∧ er = 10) ∨ (decF s loc = some (f, sz) ∧ er = 0)) := by
  have h := p_fdecode s loc hs
  rcases hd : decF s loc with _ | ⟨f, sz⟩
  · exact ⟨ent0, 0, 10, by rw [decFV_none hd] at h; exact h, .inl ⟨rfl, rfl, rfl, rfl⟩⟩
  · exact ⟨f, sz, 0, by rw [decFV_some hd] at h; exact h, .inr ⟨rfl, rfl⟩⟩
/-- The caller's memory while a directory is read. -/
def daB (D : Nat) (o r0 e0 : AV) (L : HO) (s : List UInt8) (bl : List Int) : List HO := [.box [r0], .box [e0], .box [o], .box [.d (.str s)], .box [.d (.sl .any (bl.map intEl))], .dfrAt D, L]
def bxF (f : Ent) : HO := .box ((entEl f).map AV.d)
def daJ (D : Nat) (L : HO) (s : List UInt8) (bl : List Int) (r0 e0 : AV) : List Ent → List HO
  | [] => daB D (.d (.sl .nil [])) r0 e0 L s bl
  | x :: r => daB D (.tsl 9 ((x :: r).map entEl)) r0 e0 L s bl ++ [bxF x, bxF x, .tok 9 (r.length + 1)]
def daT (D : Nat) (L : HO) (s : List UInt8) (bl : List Int) (f : Ent) : List Ent → List HO
  | [] => daJ D L s bl (.d (.sl .nil [])) (.d (.int .i64 0)) [f]
  | x :: r => daJ D L s bl (.d (.sl .nil [])) (.d (.int .i64 0)) (x :: r ++ [f]) ++ [bxF f, bxF f]
def daV : List (Nat × AV) := [(4, .ptr 0 0), (5, .ptr 1 0), (6, .ptr 2 0)]
theorem daT_eq (D : Nat) (L : HO) (s : List UInt8) (bl : List Int) (f : Ent) (acc : List Ent) : ∃ R, daT D L s bl f acc = daJ D L s bl (.d (.sl .nil [])) (.d (.int .i64 0)) (acc ++ [f]) ++ R := by
  cases acc with
  | nil => exact ⟨[], by simp [daT]⟩
  | cons x r => exact ⟨_, rfl⟩
section
variable {ps : List Tmp} {asg bod : Code} {D : Nat} {s : List UInt8} {bl : List Int}
set_option maxRecDepth 8000 in
theorem f_desc1 (hs : s.length < 2 ^ 30) (hl : bl.length < 2 ^ 40)
    (hy1 : ∀ (acc : List Ent) (f : Ent), acc.length ≤ 1024 → YFn Tryz.prog GT 6 [.d (.agg (entEl f)), .d (.int .i64 0)] (daJ D (.loop .ready daV ps asg bod) s bl (.d (.sl .nil [])) (.d (.int .i64 0)) acc ++ [bxF f]) (.d (.bool true)) (daT D (.loop .ready daV ps asg bod) s bl f acc))
    (hy2 : ∀ (acc : List Ent) (f : Ent) (er : Int), acc.length ≤ 1024 → er ≠ 0 → YFn Tryz.prog GT 6 [.d (.agg (entEl f)), .d (.int .i64 er)] (daJ D (.loop .ready daV ps asg bod) s bl (.d (.sl .nil [])) (.d (.int .i64 0)) acc ++ [bxF f]) (.d (.bool false))
      (daJ D (.loop (.done .ret) daV ps asg bod) s bl (.d (.sl .nil [])) (.d (.int .i64 er)) acc ++ [bxF f, bxF f])) :
    Fn Tryz.prog GT 79 [.yld 6, .ptr 3 0, .ptr 4 0] (daJ D (.loop .ready daV ps asg bod) s bl (.d (.sl .nil [])) (.d (.int .i64 0)) []) (.d (.tup []))
      (if (scanF s bl).1 = 0 then daJ D (.loop .ready daV ps asg bod) s bl (.d (.sl .nil [])) (.d (.int .i64 0)) (scanF s bl).2.1
       else daJ D (.loop (.done .ret) daV ps asg bod) s bl (.d (.sl .nil [])) (.d (.int .i64 (scanF s bl).1)) (scanF s bl).2.1 ++ [bxF (scanF s bl).2.2, bxF (scanF s bl).2.2]) := by
  refine Fn.of_body mo Tryz.func79 rfl (by kernel_rfl) (by kernel_rfl) (by simp [Tryz.ntmps79]) ?_; simp only [go_sem, Nat.reduceBEq, Nat.reduceAdd, Nat.reduceMul, Nat.reduceSub, Nat.reduceLeDiff, Int.reduceAdd, Int.reduceSub, Int.reduceMul, Int.reduceLE, Int.reduceLT, Int.reduceEq, Int.reduceNeg, Int.reduceToNat, Int.reduceTDiv, Int.reduceTMod, reduceIte, Nat.reduceEqDiff, Nat.reducePow, Int.reducePow, Tryz.results79]
  refine wpc_loop (Nat × Nat × List Ent) (fun q => [(0, .yld 6), (1, .ptr 3 0), (2, .ptr 4 0), (4, .d (.int .i64 q.2.2.length)), (5, .d (.int .i64 q.2.1))])
    (fun q => daJ D (.loop .ready daV ps asg bod) s bl (.d (.sl .nil [])) (.d (.int .i64 0)) q.2.2)
    (fun q => q.2.1 ≤ s.length ∧ s.length + 1 ≤ q.1 + q.2.1 ∧ q.2.2.length ≤ 1024 ∧ scanF s bl = ((scanN s bl q.1 q.2.1 q.2.2.length).1, q.2.2 ++ (scanN s bl q.1 q.2.1 q.2.2.length).2.1, (scanN s bl q.1 q.2.1 q.2.2.length).2.2)) (fun q => s.length - q.2.1) (s.length + 1, 0, [])
    (.refl _ _) ?_ ⟨Nat.zero_le _, Nat.le_refl _, Nat.zero_le _, by simp [scanF]⟩ rfl ?_ ?_
  · rintro ⟨k, off, acc⟩ hq
    cases acc <;> exact ⟨by simp [daJ, daB], rfl, rfl⟩
  · simp only [go_sem, Nat.reduceBEq, Nat.reduceAdd, Nat.reduceMul, Nat.reduceSub, Nat.reduceLeDiff, Int.reduceAdd, Int.reduceSub, Int.reduceMul, Int.reduceLE, Int.reduceLT, Int.reduceEq, Int.reduceNeg, Int.reduceToNat, Int.reduceTDiv, Int.reduceTMod, reduceIte, Nat.reduceEqDiff, Nat.reducePow, Int.reducePow]
    rfl
  rintro ⟨k, off, acc⟩ e ⟨i1, i2, i3, i4⟩ ⟨g0, g1, g2, g4, g5, _⟩
  simp only at i1 i2 i3 i4 g4 g5
  cases acc with
  | nil =>
    rw [show daJ D (.loop .ready daV ps asg bod) s bl (.d (.sl .nil [])) (.d (.int .i64 0)) [] = [.box [.d (.sl .nil [])], .box [.d (.int .i64 0)], .box [.d (.sl .nil [])], .box [.d (.str s)], .box [.d (.sl .any (bl.map intEl))], .dfrAt D, .loop .ready daV ps asg bod] from rfl]
    simp only [go_sem, Nat.reduceBEq, Nat.reduceAdd, Nat.reduceMul, Nat.reduceSub, Nat.reduceLeDiff, Int.reduceAdd, Int.reduceSub, Int.reduceMul, Int.reduceLE, Int.reduceLT, Int.reduceEq, Int.reduceNeg, Int.reduceToNat, Int.reduceTDiv, Int.reduceTMod, reduceIte, Nat.reduceEqDiff, Nat.reducePow, Int.reducePow, g0, g1, g2, g4, g5]
    (first | with_reducible refine condW_not ?_ ?_ | refine condW_split ?_ ?_) <;> intro h1 <;> simp only [go_sem, Nat.reduceBEq, Nat.reduceAdd, Nat.reduceMul, Nat.reduceSub, Nat.reduceLeDiff, Int.reduceAdd, Int.reduceSub, Int.reduceMul, Int.reduceLE, Int.reduceLT, Int.reduceEq, Int.reduceNeg, Int.reduceToNat, Int.reduceTDiv, Int.reduceTMod, reduceIte, Nat.reduceEqDiff, Nat.reducePow, Int.reducePow, g0, g1, g2, g4, g5, h1]
    · refine callK_pf (p_block bl off (by omega) hl) (by first | (simp only [go_sem, Nat.reduceBEq, Nat.reduceAdd, Nat.reduceMul, Nat.reduceSub, Nat.reduceLeDiff, Int.reduceAdd, Int.reduceSub, Int.reduceMul, Int.reduceLE, Int.reduceLT, Int.reduceEq, Int.reduceNeg, Int.reduceToNat, Int.reduceTDiv, Int.reduceTMod, reduceIte, Nat.reduceEqDiff, Nat.reducePow, Int.reducePow]; done) | (simp only [go_sem, Nat.reduceBEq, Nat.reduceAdd, Nat.reduceMul, Nat.reduceSub, Nat.reduceLeDiff, Int.reduceAdd, Int.reduceSub, Int.reduceMul, Int.reduceLE, Int.reduceLT, Int.reduceEq, Int.reduceNeg, Int.reduceToNat, Int.reduceTDiv, Int.reduceTMod, reduceIte, Nat.reduceEqDiff, Nat.reducePow, Int.reducePow]; rfl) | rfl) ?_; simp only [go_sem, Nat.reduceBEq, Nat.reduceAdd, Nat.reduceMul, Nat.reduceSub, Nat.reduceLeDiff, Int.reduceAdd, Int.reduceSub, Int.reduceMul, Int.reduceLE, Int.reduceLT, Int.reduceEq, Int.reduceNeg, Int.reduceToNat, Int.reduceTDiv, Int.reduceTMod, reduceIte, Nat.reduceEqDiff, Nat.reducePow, Int.reducePow, g0, g1, g2, g4, g5]
      refine ⟨⟨by omega, by omega⟩, ?_⟩
      obtain ⟨f, sz, er0, pd, hcase⟩ := p_fdec2 (s.drop off) (locB bl off) (by simp; omega)
      refine callK_pf (pd) (by first | (simp only [go_sem, Nat.reduceBEq, Nat.reduceAdd, Nat.reduceMul, Nat.reduceSub, Nat.reduceLeDiff, Int.reduceAdd, Int.reduceSub, Int.reduceMul, Int.reduceLE, Int.reduceLT, Int.reduceEq, Int.reduceNeg, Int.reduceToNat, Int.reduceTDiv, Int.reduceTMod, reduceIte, Nat.reduceEqDiff, Nat.reducePow, Int.reducePow]; done) | (simp only [go_sem, Nat.reduceBEq, Nat.reduceAdd, Nat.reduceMul, Nat.reduceSub, Nat.reduceLeDiff, Int.reduceAdd, Int.reduceSub, Int.reduceMul, Int.reduceLE, Int.reduceLT, Int.reduceEq, Int.reduceNeg, Int.reduceToNat, Int.reduceTDiv, Int.reduceTMod, reduceIte, Nat.reduceEqDiff, Nat.reducePow, Int.reducePow]; rfl) | rfl) ?_; simp only [go_sem, Nat.reduceBEq, Nat.reduceAdd, Nat.reduceMul, Nat.reduceSub, Nat.reduceLeDiff, Int.reduceAdd, Int.reduceSub, Int.reduceMul, Int.reduceLE, Int.reduceLT, Int.reduceEq, Int.reduceNeg, Int.reduceToNat, Int.reduceTDiv, Int.reduceTMod, reduceIte, Nat.reduceEqDiff, Nat.reducePow, Int.reducePow, g0, g1, g2, g4, g5]
      have hlt : off < s.length := by have := toProp h1; omega
      have hf : ((decF (s.drop off) (locB bl off)).map Prod.fst).getD ent0 = f := by rcases hcase with ⟨h, rfl, _⟩ | ⟨h, _⟩ <;> rw [h] <;> rfl
      obtain ⟨k, rfl⟩ : ∃ k', k = k' + 1 := ⟨k - 1, by omega⟩
      (first | with_reducible refine condW_not ?_ ?_ | refine condW_split ?_ ?_) <;> intro h2 <;> simp only [go_sem, Nat.reduceBEq, Nat.reduceAdd, Nat.reduceMul, Nat.reduceSub, Nat.reduceLeDiff, Int.reduceAdd, Int.reduceSub, Int.reduceMul, Int.reduceLE, Int.reduceLT, Int.reduceEq, Int.reduceNeg, Int.reduceToNat, Int.reduceTDiv, Int.reduceTMod, reduceIte, Nat.reduceEqDiff, Nat.reducePow, Int.reducePow, g0, g1, g2, g4, g5, h2]
      · have e1 : ([] : List Ent).length = 1024 := by have e0 := toProp h2; simp only [List.length_nil, List.length_cons] at e0 ⊢; omega
        have hsc : scanF s bl = (7, [], f) := by rw [i4, scanN_7 k hlt e1 hf]; simp only [List.append_nil, List.nil_append]
        refine callK_yld (hy2 [] f 7 i3 (by decide)) (by simp only [go_sem, Nat.reduceBEq, Nat.reduceAdd, Nat.reduceMul, Nat.reduceSub, Nat.reduceLeDiff, Int.reduceAdd, Int.reduceSub, Int.reduceMul, Int.reduceLE, Int.reduceLT, Int.reduceEq, Int.reduceNeg, Int.reduceToNat, Int.reduceTDiv, Int.reduceTMod, reduceIte, Nat.reduceEqDiff, Nat.reducePow, Int.reducePow, g0, g1, g2, g4, g5]; rfl) ?_
        simp only [go_sem, Nat.reduceBEq, Nat.reduceAdd, Nat.reduceMul, Nat.reduceSub, Nat.reduceLeDiff, Int.reduceAdd, Int.reduceSub, Int.reduceMul, Int.reduceLE, Int.reduceLT, Int.reduceEq, Int.reduceNeg, Int.reduceToNat, Int.reduceTDiv, Int.reduceTMod, reduceIte, Nat.reduceEqDiff, Nat.reducePow, Int.reducePow, g0, g1, g2, g4, g5]
        refine ⟨rfl, ?_⟩
        rw [hsc]; exact (if_neg (show ¬ (7 : Int) = 0 by decide)).symm
      · have e1 : ([] : List Ent).length ≠ 1024 := by have e0 := toNot h2; simp only [List.length_nil, List.length_cons] at e0 ⊢; omega
        (first | with_reducible refine condW_not ?_ ?_ | refine condW_split ?_ ?_) <;> intro h3 <;> simp only [go_sem, Nat.reduceBEq, Nat.reduceAdd, Nat.reduceMul, Nat.reduceSub, Nat.reduceLeDiff, Int.reduceAdd, Int.reduceSub, Int.reduceMul, Int.reduceLE, Int.reduceLT, Int.reduceEq, Int.reduceNeg, Int.reduceToNat, Int.reduceTDiv, Int.reduceTMod, reduceIte, Nat.reduceEqDiff, Nat.reducePow, Int.reducePow, g0, g1, g2, g4, g5, h3]
        · have hsc : scanF s bl = (2, [], f) := by rw [i4, scanN_2 k hlt e1 h3 hf]; simp only [List.append_nil, List.nil_append]
          refine callK_yld (hy2 [] f 2 i3 (by decide)) (by simp only [go_sem, Nat.reduceBEq, Nat.reduceAdd, Nat.reduceMul, Nat.reduceSub, Nat.reduceLeDiff, Int.reduceAdd, Int.reduceSub, Int.reduceMul, Int.reduceLE, Int.reduceLT, Int.reduceEq, Int.reduceNeg, Int.reduceToNat, Int.reduceTDiv, Int.reduceTMod, reduceIte, Nat.reduceEqDiff, Nat.reducePow, Int.reducePow, g0, g1, g2, g4, g5]; rfl) ?_
          simp only [go_sem, Nat.reduceBEq, Nat.reduceAdd, Nat.reduceMul, Nat.reduceSub, Nat.reduceLeDiff, Int.reduceAdd, Int.reduceSub, Int.reduceMul, Int.reduceLE, Int.reduceLT, Int.reduceEq, Int.reduceNeg, Int.reduceToNat, Int.reduceTDiv, Int.reduceTMod, reduceIte, Nat.reduceEqDiff, Nat.reducePow, Int.reducePow, g0, g1, g2, g4, g5]
          refine ⟨rfl, ?_⟩
          rw [hsc]; exact (if_neg (show ¬ (2 : Int) = 0 by decide)).symm
        · rcases hcase with ⟨d1, rfl, d3, rfl⟩ | ⟨d1, rfl⟩
          · have hsc : scanF s bl = (10, [], ent0) := by rw [i4, scanN_10 k hlt e1 h3 d1]; simp only [List.append_nil, List.nil_append]
            refine callK_yld (hy2 [] ent0 10 i3 (by decide)) (by simp only [go_sem, Nat.reduceBEq, Nat.reduceAdd, Nat.reduceMul, Nat.reduceSub, Nat.reduceLeDiff, Int.reduceAdd, Int.reduceSub, Int.reduceMul, Int.reduceLE, Int.reduceLT, Int.reduceEq, Int.reduceNeg, Int.reduceToNat, Int.reduceTDiv, Int.reduceTMod, reduceIte, Nat.reduceEqDiff, Nat.reducePow, Int.reducePow, g0, g1, g2, g4, g5]; rfl) ?_
            simp only [go_sem, Nat.reduceBEq, Nat.reduceAdd, Nat.reduceMul, Nat.reduceSub, Nat.reduceLeDiff, Int.reduceAdd, Int.reduceSub, Int.reduceMul, Int.reduceLE, Int.reduceLT, Int.reduceEq, Int.reduceNeg, Int.reduceToNat, Int.reduceTDiv, Int.reduceTMod, reduceIte, Nat.reduceEqDiff, Nat.reducePow, Int.reducePow, g0, g1, g2, g4, g5]
            refine ⟨rfl, ?_⟩
            rw [hsc]; exact (if_neg (show ¬ (10 : Int) = 0 by decide)).symm
          · have hz := decF_size d1
            simp only [List.length_drop] at hz
            refine callK_yld (hy1 [] f i3) (by simp only [go_sem, Nat.reduceBEq, Nat.reduceAdd, Nat.reduceMul, Nat.reduceSub, Nat.reduceLeDiff, Int.reduceAdd, Int.reduceSub, Int.reduceMul, Int.reduceLE, Int.reduceLT, Int.reduceEq, Int.reduceNeg, Int.reduceToNat, Int.reduceTDiv, Int.reduceTMod, reduceIte, Nat.reduceEqDiff, Nat.reducePow, Int.reducePow, g0, g1, g2, g4, g5]; rfl) ?_
            simp only [go_sem, Nat.reduceBEq, Nat.reduceAdd, Nat.reduceMul, Nat.reduceSub, Nat.reduceLeDiff, Int.reduceAdd, Int.reduceSub, Int.reduceMul, Int.reduceLE, Int.reduceLT, Int.reduceEq, Int.reduceNeg, Int.reduceToNat, Int.reduceTDiv, Int.reduceTMod, reduceIte, Nat.reduceEqDiff, Nat.reducePow, Int.reducePow, g0, g1, g2, g4, g5]
            refine ⟨(k, off + sz, [] ++ [f]), ⟨by show off + sz ≤ _; omega, by show s.length + 1 ≤ k + (off + sz); omega, by simp only [List.length_append, List.length_nil, List.length_cons] at *; omega, ?_⟩, by show s.length - (off + sz) < _; omega, daT_eq .., ?_, ?_⟩
            · rw [i4, scanN_go k hlt e1 h3 d1]
              simp only [List.length_append, List.length_cons, List.length_nil, List.append_assoc, List.cons_append, List.nil_append]
            · rw [wrap_i64 (by omega) (by simp only [List.length_cons, List.length_nil] at *; omega)]
              simp only [List.length_append, List.length_cons, List.length_nil]
              rfl
            · rw [wrap_i64 (by omega) (by omega)]
              rfl
    · have hsc : scanF s bl = (0, [], ent0) := by
        have := toNot h1
        rw [i4, scanN_end k (by omega)]; simp only [List.append_nil, List.nil_append]
      refine ⟨rfl, ?_⟩
      rw [hsc, if_pos rfl]
      rfl
  | cons x r =>
    rw [show daJ D (.loop .ready daV ps asg bod) s bl (.d (.sl .nil [])) (.d (.int .i64 0)) (x :: r) = [.box [.d (.sl .nil [])], .box [.d (.int .i64 0)], .box [.tsl 9 ((x :: r).map entEl)], .box [.d (.str s)], .box [.d (.sl .any (bl.map intEl))], .dfrAt D, .loop .ready daV ps asg bod, bxF x, bxF x, .tok 9 (r.length + 1)] from rfl]
    simp only [go_sem, Nat.reduceBEq, Nat.reduceAdd, Nat.reduceMul, Nat.reduceSub, Nat.reduceLeDiff, Int.reduceAdd, Int.reduceSub, Int.reduceMul, Int.reduceLE, Int.reduceLT, Int.reduceEq, Int.reduceNeg, Int.reduceToNat, Int.reduceTDiv, Int.reduceTMod, reduceIte, Nat.reduceEqDiff, Nat.reducePow, Int.reducePow, g0, g1, g2, g4, g5]
    (first | with_reducible refine condW_not ?_ ?_ | refine condW_split ?_ ?_) <;> intro h1 <;> simp only [go_sem, Nat.reduceBEq, Nat.reduceAdd, Nat.reduceMul, Nat.reduceSub, Nat.reduceLeDiff, Int.reduceAdd, Int.reduceSub, Int.reduceMul, Int.reduceLE, Int.reduceLT, Int.reduceEq, Int.reduceNeg, Int.reduceToNat, Int.reduceTDiv, Int.reduceTMod, reduceIte, Nat.reduceEqDiff, Nat.reducePow, Int.reducePow, g0, g1, g2, g4, g5, h1]
    · refine callK_pf (p_block bl off (by omega) hl) (by first | (simp only [go_sem, Nat.reduceBEq, Nat.reduceAdd, Nat.reduceMul, Nat.reduceSub, Nat.reduceLeDiff, Int.reduceAdd, Int.reduceSub, Int.reduceMul, Int.reduceLE, Int.reduceLT, Int.reduceEq, Int.reduceNeg, Int.reduceToNat, Int.reduceTDiv, Int.reduceTMod, reduceIte, Nat.reduceEqDiff, Nat.reducePow, Int.reducePow]; done) | (simp only [go_sem, Nat.reduceBEq, Nat.reduceAdd, Nat.reduceMul, Nat.reduceSub, Nat.reduceLeDiff, Int.reduceAdd, Int.reduceSub, Int.reduceMul, Int.reduceLE, Int.reduceLT, Int.reduceEq, Int.reduceNeg, Int.reduceToNat, Int.reduceTDiv, Int.reduceTMod, reduceIte, Nat.reduceEqDiff, Nat.reducePow, Int.reducePow]; rfl) | rfl) ?_; simp only [go_sem, Nat.reduceBEq, Nat.reduceAdd, Nat.reduceMul, Nat.reduceSub, Nat.reduceLeDiff, Int.reduceAdd, Int.reduceSub, Int.reduceMul, Int.reduceLE, Int.reduceLT, Int.reduceEq, Int.reduceNeg, Int.reduceToNat, Int.reduceTDiv, Int.reduceTMod, reduceIte, Nat.reduceEqDiff, Nat.reducePow, Int.reducePow, g0, g1, g2, g4, g5]
      refine ⟨⟨by omega, by omega⟩, ?_⟩
      obtain ⟨f, sz, er0, pd, hcase⟩ := p_fdec2 (s.drop off) (locB bl off) (by simp; omega)
      refine callK_pf (pd) (by first | (simp only [go_sem, Nat.reduceBEq, Nat.reduceAdd, Nat.reduceMul, Nat.reduceSub, Nat.reduceLeDiff, Int.reduceAdd, Int.reduceSub, Int.reduceMul, Int.reduceLE, Int.reduceLT, Int.reduceEq, Int.reduceNeg, Int.reduceToNat, Int.reduceTDiv, Int.reduceTMod, reduceIte, Nat.reduceEqDiff, Nat.reducePow, Int.reducePow]; done) | (simp only [go_sem, Nat.reduceBEq, Nat.reduceAdd, Nat.reduceMul, Nat.reduceSub, Nat.reduceLeDiff, Int.reduceAdd, Int.reduceSub, Int.reduceMul, Int.reduceLE, Int.reduceLT, Int.reduceEq, Int.reduceNeg, Int.reduceToNat, Int.reduceTDiv, Int.reduceTMod, reduceIte, Nat.reduceEqDiff, Nat.reducePow, Int.reducePow]; rfl) | rfl) ?_; simp only [go_sem, Nat.reduceBEq, Nat.reduceAdd, Nat.reduceMul, Nat.reduceSub, Nat.reduceLeDiff, Int.reduceAdd, Int.reduceSub, Int.reduceMul, Int.reduceLE, Int.reduceLT, Int.reduceEq, Int.reduceNeg, Int.reduceToNat, Int.reduceTDiv, Int.reduceTMod, reduceIte, Nat.reduceEqDiff, Nat.reducePow, Int.reducePow, g0, g1, g2, g4, g5]
      have hlt : off < s.length := by have := toProp h1; omega
      have hf : ((decF (s.drop off) (locB bl off)).map Prod.fst).getD ent0 = f := by rcases hcase with ⟨h, rfl, _⟩ | ⟨h, _⟩ <;> rw [h] <;> rfl
      obtain ⟨k, rfl⟩ : ∃ k', k = k' + 1 := ⟨k - 1, by omega⟩
      (first | with_reducible refine condW_not ?_ ?_ | refine condW_split ?_ ?_) <;> intro h2 <;> simp only [go_sem, Nat.reduceBEq, Nat.reduceAdd, Nat.reduceMul, Nat.reduceSub, Nat.reduceLeDiff, Int.reduceAdd, Int.reduceSub, Int.reduceMul, Int.reduceLE, Int.reduceLT, Int.reduceEq, Int.reduceNeg, Int.reduceToNat, Int.reduceTDiv, Int.reduceTMod, reduceIte, Nat.reduceEqDiff, Nat.reducePow, Int.reducePow, g0, g1, g2, g4, g5, h2]
      · have e1 : ((x :: r) : List Ent).length = 1024 := by have e0 := toProp h2; simp only [List.length_nil, List.length_cons] at e0 ⊢; omega
        have hsc : scanF s bl = (7, (x :: r), f) := by rw [i4, scanN_7 k hlt e1 hf]; simp only [List.append_nil, List.nil_append]
        refine callK_yld (hy2 (x :: r) f 7 i3 (by decide)) (by simp only [go_sem, Nat.reduceBEq, Nat.reduceAdd, Nat.reduceMul, Nat.reduceSub, Nat.reduceLeDiff, Int.reduceAdd, Int.reduceSub, Int.reduceMul, Int.reduceLE, Int.reduceLT, Int.reduceEq, Int.reduceNeg, Int.reduceToNat, Int.reduceTDiv, Int.reduceTMod, reduceIte, Nat.reduceEqDiff, Nat.reducePow, Int.reducePow, g0, g1, g2, g4, g5]; rfl) ?_
        simp only [go_sem, Nat.reduceBEq, Nat.reduceAdd, Nat.reduceMul, Nat.reduceSub, Nat.reduceLeDiff, Int.reduceAdd, Int.reduceSub, Int.reduceMul, Int.reduceLE, Int.reduceLT, Int.reduceEq, Int.reduceNeg, Int.reduceToNat, Int.reduceTDiv, Int.reduceTMod, reduceIte, Nat.reduceEqDiff, Nat.reducePow, Int.reducePow, g0, g1, g2, g4, g5]
        refine ⟨rfl, ?_⟩
        rw [hsc]; exact (if_neg (show ¬ (7 : Int) = 0 by decide)).symm
      · have e1 : ((x :: r) : List Ent).length ≠ 1024 := by have e0 := toNot h2; simp only [List.length_nil, List.length_cons] at e0 ⊢; omega
        (first | with_reducible refine condW_not ?_ ?_ | refine condW_split ?_ ?_) <;> intro h3 <;> simp only [go_sem, Nat.reduceBEq, Nat.reduceAdd, Nat.reduceMul, Nat.reduceSub, Nat.reduceLeDiff, Int.reduceAdd, Int.reduceSub, Int.reduceMul, Int.reduceLE, Int.reduceLT, Int.reduceEq, Int.reduceNeg, Int.reduceToNat, Int.reduceTDiv, Int.reduceTMod, reduceIte, Nat.reduceEqDiff, Nat.reducePow, Int.reducePow, g0, g1, g2, g4, g5, h3]
        · have hsc : scanF s bl = (2, (x :: r), f) := by rw [i4, scanN_2 k hlt e1 h3 hf]; simp only [List.append_nil, List.nil_append]
          refine callK_yld (hy2 (x :: r) f 2 i3 (by decide)) (by simp only [go_sem, Nat.reduceBEq, Nat.reduceAdd, Nat.reduceMul, Nat.reduceSub, Nat.reduceLeDiff, Int.reduceAdd, Int.reduceSub, Int.reduceMul, Int.reduceLE, Int.reduceLT, Int.reduceEq, Int.reduceNeg, Int.reduceToNat, Int.reduceTDiv, Int.reduceTMod, reduceIte, Nat.reduceEqDiff, Nat.reducePow, Int.reducePow, g0, g1, g2, g4, g5]; rfl) ?_
          simp only [go_sem, Nat.reduceBEq, Nat.reduceAdd, Nat.reduceMul, Nat.reduceSub, Nat.reduceLeDiff, Int.reduceAdd, Int.reduceSub, Int.reduceMul, Int.reduceLE, Int.reduceLT, Int.reduceEq, Int.reduceNeg, Int.reduceToNat, Int.reduceTDiv, Int.reduceTMod, reduceIte, Nat.reduceEqDiff, Nat.reducePow, Int.reducePow, g0, g1, g2, g4, g5]
          refine ⟨rfl, ?_⟩
          rw [hsc]; exact (if_neg (show ¬ (2 : Int) = 0 by decide)).symm
        · rcases hcase with ⟨d1, rfl, d3, rfl⟩ | ⟨d1, rfl⟩
          · have hsc : scanF s bl = (10, (x :: r), ent0) := by rw [i4, scanN_10 k hlt e1 h3 d1]; simp only [List.append_nil, List.nil_append]
            refine callK_yld (hy2 (x :: r) ent0 10 i3 (by decide)) (by simp only [go_sem, Nat.reduceBEq, Nat.reduceAdd, Nat.reduceMul, Nat.reduceSub, Nat.reduceLeDiff, Int.reduceAdd, Int.reduceSub, Int.reduceMul, Int.reduceLE, Int.reduceLT, Int.reduceEq, Int.reduceNeg, Int.reduceToNat, Int.reduceTDiv, Int.reduceTMod, reduceIte, Nat.reduceEqDiff, Nat.reducePow, Int.reducePow, g0, g1, g2, g4, g5]; rfl) ?_
            simp only [go_sem, Nat.reduceBEq, Nat.reduceAdd, Nat.reduceMul, Nat.reduceSub, Nat.reduceLeDiff, Int.reduceAdd, Int.reduceSub, Int.reduceMul, Int.reduceLE, Int.reduceLT, Int.reduceEq, Int.reduceNeg, Int.reduceToNat, Int.reduceTDiv, Int.reduceTMod, reduceIte, Nat.reduceEqDiff, Nat.reducePow, Int.reducePow, g0, g1, g2, g4, g5]
            refine ⟨rfl, ?_⟩
            rw [hsc]; exact (if_neg (show ¬ (10 : Int) = 0 by decide)).symm
          · have hz := decF_size d1
            simp only [List.length_drop] at hz
            refine callK_yld (hy1 (x :: r) f i3) (by simp only [go_sem, Nat.reduceBEq, Nat.reduceAdd, Nat.reduceMul, Nat.reduceSub, Nat.reduceLeDiff, Int.reduceAdd, Int.reduceSub, Int.reduceMul, Int.reduceLE, Int.reduceLT, Int.reduceEq, Int.reduceNeg, Int.reduceToNat, Int.reduceTDiv, Int.reduceTMod, reduceIte, Nat.reduceEqDiff, Nat.reducePow, Int.reducePow, g0, g1, g2, g4, g5]; rfl) ?_
            simp only [go_sem, Nat.reduceBEq, Nat.reduceAdd, Nat.reduceMul, Nat.reduceSub, Nat.reduceLeDiff, Int.reduceAdd, Int.reduceSub, Int.reduceMul, Int.reduceLE, Int.reduceLT, Int.reduceEq, Int.reduceNeg, Int.reduceToNat, Int.reduceTDiv, Int.reduceTMod, reduceIte, Nat.reduceEqDiff, Nat.reducePow, Int.reducePow, g0, g1, g2, g4, g5]
            refine ⟨(k, off + sz, (x :: r) ++ [f]), ⟨by show off + sz ≤ _; omega, by show s.length + 1 ≤ k + (off + sz); omega, by simp only [List.length_append, List.length_nil, List.length_cons] at *; omega, ?_⟩, by show s.length - (off + sz) < _; omega, daT_eq .., ?_, ?_⟩
            · rw [i4, scanN_go k hlt e1 h3 d1]
              simp only [List.length_append, List.length_cons, List.length_nil, List.append_assoc, List.cons_append, List.nil_append]
            · rw [wrap_i64 (by omega) (by simp only [List.length_cons, List.length_nil] at *; omega)]
              simp only [List.length_append, List.length_cons, List.length_nil]
              rfl
            · rw [wrap_i64 (by omega) (by omega)]
              rfl
    · have hsc : scanF s bl = (0, (x :: r), ent0) := by
        have := toNot h1
        rw [i4, scanN_end k (by omega)]; simp only [List.append_nil, List.nil_append]
      refine ⟨rfl, ?_⟩
      rw [hsc, if_pos rfl]
      rfl
end
end Go.Proofs.YtjmldlknegbimaaGreatDoor.Sx
