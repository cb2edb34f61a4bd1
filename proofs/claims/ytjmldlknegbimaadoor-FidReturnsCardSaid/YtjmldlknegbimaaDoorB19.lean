/- Streams and Names of the program. -/
import Derived.Test.YtjmldlknegbimaaDoorB18
set_option linter.unusedVariables false
set_option linter.unusedSimpArgs false
namespace Go.Proofs.YtjmldlknegbimaaDoor.Sx
open Go Go.RowKit
variable {G : Gl}
structure Strm where
  name : List UInt8
  data : List UInt8
  deriving DecidableEq, Inhabited
def stEl (s : Strm) : List DV := [.str s.name, .str s.data]
@[go_sem] theorem stEl_len (s : Strm) : (stEl s).length = 2 := rfl
@[go_sem] theorem stEl_map (s : Strm) : (stEl s).map AV.d = [.d (.str s.name), .d (.str s.data)] := rfl
def adEl (a : Int × Int) : List DV := [.int .i64 a.1, .int .i64 a.2]
@[go_sem] theorem adEl_len (a : Int × Int) : (adEl a).length = 2 := rfl
@[go_sem] theorem adEl_map (a : Int × Int) : (adEl a).map AV.d = [.d (.int .i64 a.1), .d (.int .i64 a.2)] := rfl
def strEl (s : List UInt8) : List DV := [.str s]
@[go_sem] theorem strEl_len (s : List UInt8) : (strEl s).length = 1 := rfl
@[go_sem] theorem strEl_map (s : List UInt8) : (strEl s).map AV.d = [.d (.str s)] := rfl
def parE (p : Int × Int) : Ent := ⟨[], false, true, false, true, false, p.1, p.2, 0⟩
def strE (u : Int) (x : Strm × (Int × Int)) : Ent := ⟨x.1.name, false, false, false, false, false, x.2.1, x.2.2, u⟩
def dirP (p : Int × Int) (l : List Strm) (ic : List (Int × Int)) (u : Int) : List Ent := parE p :: (l.zip ic).map (strE u)
def streamsV (p : Int × Int) (l : List Strm) (ic : List (Int × Int)) (u : Int) : DV :=
  if decide (4 < (l.length : Int)) = true then .tup [.sl .any [], .int .i64 7]
  else if ic.length ≠ l.length then .tup [.sl .any [], .int .i64 1]
  else if validF (dirP p l ic u) = true then .tup [.sl .any ((dirP p l ic u).map entEl), .int .i64 0] else .tup [.sl .any [], .int .i64 1]
def dirI (p : Int × Int) (l : List Strm) (ic : List (Int × Int)) (u : Int) (i : Nat) : List Ent := parE p :: ((l.zip ic).take i).map (strE u)
theorem dirI_len (p : Int × Int) (l : List Strm) (ic : List (Int × Int)) (u : Int) (i : Nat) (h : i ≤ l.length) (h2 : ic.length = l.length) : (dirI p l ic u i).length = i + 1 := by
  simp [dirI]; omega
theorem dirI_succ (p : Int × Int) (l : List Strm) (ic : List (Int × Int)) (u : Int) (i : Nat) (h : i < l.length) (h2 : ic.length = l.length) : dirI p l ic u (i + 1) = dirI p l ic u i ++ [strE u (l[i], ic[i])] := by
  have hz : i < (l.zip ic).length := by simp; omega
  rw [dirI, dirI, List.take_succ_eq_append_getElem hz, List.map_append, List.getElem_zip]
  rfl
theorem szOk_ents (l : List Ent) : szOk 9 (l.map entEl) = true := by simp [szOk, entEl]
set_option maxRecDepth 8000 in
theorem p_streams (p : Int × Int) (l : List Strm) (ic : List (Int × Int)) (u : Int) : PF Tryd.prog GT 25 [.agg (adEl p), .sl .any (l.map stEl), .sl .any (ic.map adEl), .int .i64 u] (streamsV p l ic u) := by
  refine PF.of_body mo Tryd.func25 rfl (by kernel_rfl) (by kernel_rfl) (by simp [Tryd.ntmps25]) ?_; simp only [go_sem, Nat.reduceBEq, Nat.reduceAdd, Nat.reduceMul, Nat.reduceSub, Nat.reduceLeDiff, Int.reduceAdd, Int.reduceSub, Int.reduceMul, Int.reduceLE, Int.reduceLT, Int.reduceEq, Int.reduceNeg, Int.reduceToNat, Int.reduceTDiv, Int.reduceTMod, reduceIte, Nat.reduceEqDiff, Nat.reducePow, Int.reducePow, Tryd.results25]
  (first | with_reducible refine condW_not ?_ ?_ | refine condW_split ?_ ?_) <;> intro h1 <;> simp only [go_sem, Nat.reduceBEq, Nat.reduceAdd, Nat.reduceMul, Nat.reduceSub, Nat.reduceLeDiff, Int.reduceAdd, Int.reduceSub, Int.reduceMul, Int.reduceLE, Int.reduceLT, Int.reduceEq, Int.reduceNeg, Int.reduceToNat, Int.reduceTDiv, Int.reduceTMod, reduceIte, Nat.reduceEqDiff, Nat.reducePow, Int.reducePow, adEl, h1]
  · rw [streamsV, if_pos h1]
  · (first | with_reducible refine condW_not ?_ ?_ | refine condW_split ?_ ?_) <;> intro h2 <;> simp only [go_sem, Nat.reduceBEq, Nat.reduceAdd, Nat.reduceMul, Nat.reduceSub, Nat.reduceLeDiff, Int.reduceAdd, Int.reduceSub, Int.reduceMul, Int.reduceLE, Int.reduceLT, Int.reduceEq, Int.reduceNeg, Int.reduceToNat, Int.reduceTDiv, Int.reduceTMod, reduceIte, Nat.reduceEqDiff, Nat.reducePow, Int.reducePow, adEl, h2]
    · rw [streamsV, if_neg (by rw [h1]; decide), if_pos (by have := toNot h2; omega)]
    · have hl := toNot h1
      have hq : ic.length = l.length := by have := toProp h2; omega
      have hval : streamsV p l ic u = if validF (dirP p l ic u) = true then .tup [.sl .any ((dirP p l ic u).map entEl), .int .i64 0] else .tup [.sl .any [], .int .i64 1] := by
        rw [streamsV, if_neg (by rw [h1]; decide), if_neg (by omega)]
      have hdir : dirI p l ic u l.length = dirP p l ic u := by rw [dirI, dirP, List.take_of_length_le (by simp; omega)]
      refine wpc_loop Nat (fun i => [(2, .d (.sl .any (ic.map adEl))), (3, .d (.int .i64 u)), (10, .tsl 1 ((dirI p l ic u i).map entEl)), (26, .d (.sl .any (l.map stEl))), (27, .d (.int .i64 l.length)), (28, .d (.int .i64 i))]) (fun i => [.box [.d (.int .i64 p.1), .d (.int .i64 p.2)], .tok 9 (dirI p l ic u i).length]) (fun i => i ≤ l.length) (fun i => l.length - i) 0
        (.step _ _ 10 .full [entEl (parE p)] 9 _ _ rfl (by decide) (.refl _ _)) (fun i hi => ⟨Nat.zero_le _, rfl, rfl⟩) (Nat.zero_le _) rfl ?_ ?_
      · simp only [go_sem, Nat.reduceBEq, Nat.reduceAdd, Nat.reduceMul, Nat.reduceSub, Nat.reduceLeDiff, Int.reduceAdd, Int.reduceSub, Int.reduceMul, Int.reduceLE, Int.reduceLT, Int.reduceEq, Int.reduceNeg, Int.reduceToNat, Int.reduceTDiv, Int.reduceTMod, reduceIte, Nat.reduceEqDiff, Nat.reducePow, Int.reducePow, adEl]
        exact ⟨rfl, rfl⟩
      intro i e hi ⟨g2, g3, g10, g26, g27, g28, _⟩
      simp only [go_sem, Nat.reduceBEq, Nat.reduceAdd, Nat.reduceMul, Nat.reduceSub, Nat.reduceLeDiff, Int.reduceAdd, Int.reduceSub, Int.reduceMul, Int.reduceLE, Int.reduceLT, Int.reduceEq, Int.reduceNeg, Int.reduceToNat, Int.reduceTDiv, Int.reduceTMod, reduceIte, Nat.reduceEqDiff, Nat.reducePow, Int.reducePow, g2, g3, g10, g26, g27, g28]
      (first | with_reducible refine condW_not ?_ ?_ | refine condW_split ?_ ?_) <;> intro h3 <;> simp only [go_sem, Nat.reduceBEq, Nat.reduceAdd, Nat.reduceMul, Nat.reduceSub, Nat.reduceLeDiff, Int.reduceAdd, Int.reduceSub, Int.reduceMul, Int.reduceLE, Int.reduceLT, Int.reduceEq, Int.reduceNeg, Int.reduceToNat, Int.reduceTDiv, Int.reduceTMod, reduceIte, Nat.reduceEqDiff, Nat.reducePow, Int.reducePow, g2, g3, g10, g26, g27, g28, h3]
      · have hlt : i < l.length := by have := toProp h3; omega
        have hdl := dirI_len p l ic u i hi hq
        have hds := dirI_succ p l ic u i hlt hq
        refine ⟨⟨by omega, by omega⟩, ?_⟩
        simp only [go_sem, Nat.reduceBEq, Nat.reduceAdd, Nat.reduceMul, Nat.reduceSub, Nat.reduceLeDiff, Int.reduceAdd, Int.reduceSub, Int.reduceMul, Int.reduceLE, Int.reduceLT, Int.reduceEq, Int.reduceNeg, Int.reduceToNat, Int.reduceTDiv, Int.reduceTMod, reduceIte, Nat.reduceEqDiff, Nat.reducePow, Int.reducePow, g2, g3, g10, g26, g27, g28, stEl, adEl, szOk_ents, hdl]
        have hdl2 : (dirI p l ic u (i + 1)).length = i + 1 + 1 := dirI_len p l ic u (i + 1) (by omega) hq
        refine ⟨⟨by omega, by omega⟩, by omega, by kernel_rfl, i + 1, by omega, by omega, ⟨_, by rw [hdl2]⟩, ?_, by rw [wrap_i64 (by omega) (by omega)]; rfl⟩
        rw [hds, List.map_append]
        rfl
      · have : i = l.length := by have := toNot h3; omega
        subst this
        have hlen : (dirI p l ic u l.length).length < 2 ^ 62 := by rw [dirI_len p l ic u _ (Nat.le_refl _) hq]; omega
        rw [hval, ← hdir]
        refine callK_pf (p_fvalid (dirI p l ic u l.length) hlen) (by first | (simp only [go_sem, Nat.reduceBEq, Nat.reduceAdd, Nat.reduceMul, Nat.reduceSub, Nat.reduceLeDiff, Int.reduceAdd, Int.reduceSub, Int.reduceMul, Int.reduceLE, Int.reduceLT, Int.reduceEq, Int.reduceNeg, Int.reduceToNat, Int.reduceTDiv, Int.reduceTMod, reduceIte, Nat.reduceEqDiff, Nat.reducePow, Int.reducePow]; done) | (simp only [go_sem, Nat.reduceBEq, Nat.reduceAdd, Nat.reduceMul, Nat.reduceSub, Nat.reduceLeDiff, Int.reduceAdd, Int.reduceSub, Int.reduceMul, Int.reduceLE, Int.reduceLT, Int.reduceEq, Int.reduceNeg, Int.reduceToNat, Int.reduceTDiv, Int.reduceTMod, reduceIte, Nat.reduceEqDiff, Nat.reducePow, Int.reducePow]; rfl) | rfl) ?_; simp only [go_sem, Nat.reduceBEq, Nat.reduceAdd, Nat.reduceMul, Nat.reduceSub, Nat.reduceLeDiff, Int.reduceAdd, Int.reduceSub, Int.reduceMul, Int.reduceLE, Int.reduceLT, Int.reduceEq, Int.reduceNeg, Int.reduceToNat, Int.reduceTDiv, Int.reduceTMod, reduceIte, Nat.reduceEqDiff, Nat.reducePow, Int.reducePow, g2, g3, g10, g26, g27, g28]
        (first | with_reducible refine condW_not ?_ ?_ | refine condW_split ?_ ?_) <;> intro h4 <;> simp only [go_sem, Nat.reduceBEq, Nat.reduceAdd, Nat.reduceMul, Nat.reduceSub, Nat.reduceLeDiff, Int.reduceAdd, Int.reduceSub, Int.reduceMul, Int.reduceLE, Int.reduceLT, Int.reduceEq, Int.reduceNeg, Int.reduceToNat, Int.reduceTDiv, Int.reduceTMod, reduceIte, Nat.reduceEqDiff, Nat.reducePow, Int.reducePow, g2, g3, g10, g26, g27, g28, h4]
def namesV (l : List Ent) : DV :=
  if validF l = true then
    if 4 < (l.filter live).length then .tup [.sl .any [], .sl .any [], .int .i64 7]
    else .tup [.sl .any ((l.filter live).map fun f => strEl f.name), .sl .any ((l.filter live).map fun f => adEl (f.blk, f.prt)), .int .i64 0]
  else .tup [.sl .any [], .sl .any [], .int .i64 1]
set_option maxRecDepth 8000 in
theorem p_names (l : List Ent) (hl : l.length < 2 ^ 62) : PF Tryd.prog GT 27 [.sl .any (l.map entEl)] (namesV l) := by
  refine PF.of_body mo Tryd.func27 rfl (by kernel_rfl) (by kernel_rfl) (by simp [Tryd.ntmps27]) ?_; simp only [go_sem, Nat.reduceBEq, Nat.reduceAdd, Nat.reduceMul, Nat.reduceSub, Nat.reduceLeDiff, Int.reduceAdd, Int.reduceSub, Int.reduceMul, Int.reduceLE, Int.reduceLT, Int.reduceEq, Int.reduceNeg, Int.reduceToNat, Int.reduceTDiv, Int.reduceTMod, reduceIte, Nat.reduceEqDiff, Nat.reducePow, Int.reducePow, Tryd.results27]
  refine callK_pf (p_fvalid l hl) (by first | (simp only [go_sem, Nat.reduceBEq, Nat.reduceAdd, Nat.reduceMul, Nat.reduceSub, Nat.reduceLeDiff, Int.reduceAdd, Int.reduceSub, Int.reduceMul, Int.reduceLE, Int.reduceLT, Int.reduceEq, Int.reduceNeg, Int.reduceToNat, Int.reduceTDiv, Int.reduceTMod, reduceIte, Nat.reduceEqDiff, Nat.reducePow, Int.reducePow]; done) | (simp only [go_sem, Nat.reduceBEq, Nat.reduceAdd, Nat.reduceMul, Nat.reduceSub, Nat.reduceLeDiff, Int.reduceAdd, Int.reduceSub, Int.reduceMul, Int.reduceLE, Int.reduceLT, Int.reduceEq, Int.reduceNeg, Int.reduceToNat, Int.reduceTDiv, Int.reduceTMod, reduceIte, Nat.reduceEqDiff, Nat.reducePow, Int.reducePow]; rfl) | rfl) ?_; simp only [go_sem, Nat.reduceBEq, Nat.reduceAdd, Nat.reduceMul, Nat.reduceSub, Nat.reduceLeDiff, Int.reduceAdd, Int.reduceSub, Int.reduceMul, Int.reduceLE, Int.reduceLT, Int.reduceEq, Int.reduceNeg, Int.reduceToNat, Int.reduceTDiv, Int.reduceTMod, reduceIte, Nat.reduceEqDiff, Nat.reducePow, Int.reducePow]
  (first | with_reducible refine condW_not ?_ ?_ | refine condW_split ?_ ?_) <;> intro h1 <;> simp only [go_sem, Nat.reduceBEq, Nat.reduceAdd, Nat.reduceMul, Nat.reduceSub, Nat.reduceLeDiff, Int.reduceAdd, Int.reduceSub, Int.reduceMul, Int.reduceLE, Int.reduceLT, Int.reduceEq, Int.reduceNeg, Int.reduceToNat, Int.reduceTDiv, Int.reduceTMod, reduceIte, Nat.reduceEqDiff, Nat.reducePow, Int.reducePow, h1]
  · rw [namesV, if_neg (by rw [h1]; decide)]
  · have hv := h1
    simp only [validF, Bool.and_eq_true, decide_eq_true_eq] at hv
    refine wpc_loop Nat (fun i => [(5, .tsl 0 (((l.take i).filter live).map fun f => strEl f.name)), (6, .tsl 1 (((l.take i).filter live).map fun f => adEl (f.blk, f.prt))), (12, .d (.sl .any (l.map entEl))), (13, .d (.int .i64 l.length)), (14, .d (.int .i64 i))]) (fun i => [.tok 1 ((l.take i).filter live).length, .tok 2 ((l.take i).filter live).length]) (fun i => i ≤ l.length) (fun i => l.length - i) 0
      (.step _ _ 5 .nil [] 1 _ _ rfl (by decide) (.step _ _ 6 .nil [] 2 _ _ rfl (by decide) (.refl _ _))) (fun i hi => ⟨Nat.zero_le _, rfl, rfl⟩) (Nat.zero_le _) rfl ?_ ?_
    · simp only [go_sem, Nat.reduceBEq, Nat.reduceAdd, Nat.reduceMul, Nat.reduceSub, Nat.reduceLeDiff, Int.reduceAdd, Int.reduceSub, Int.reduceMul, Int.reduceLE, Int.reduceLT, Int.reduceEq, Int.reduceNeg, Int.reduceToNat, Int.reduceTDiv, Int.reduceTMod, reduceIte, Nat.reduceEqDiff, Nat.reducePow, Int.reducePow]
      exact ⟨rfl, rfl, rfl⟩
    intro i e hi ⟨g5, g6, g12, g13, g14, _⟩
    simp only [go_sem, Nat.reduceBEq, Nat.reduceAdd, Nat.reduceMul, Nat.reduceSub, Nat.reduceLeDiff, Int.reduceAdd, Int.reduceSub, Int.reduceMul, Int.reduceLE, Int.reduceLT, Int.reduceEq, Int.reduceNeg, Int.reduceToNat, Int.reduceTDiv, Int.reduceTMod, reduceIte, Nat.reduceEqDiff, Nat.reducePow, Int.reducePow, g5, g6, g12, g13, g14]
    (first | with_reducible refine condW_not ?_ ?_ | refine condW_split ?_ ?_) <;> intro h3 <;> simp only [go_sem, Nat.reduceBEq, Nat.reduceAdd, Nat.reduceMul, Nat.reduceSub, Nat.reduceLeDiff, Int.reduceAdd, Int.reduceSub, Int.reduceMul, Int.reduceLE, Int.reduceLT, Int.reduceEq, Int.reduceNeg, Int.reduceToNat, Int.reduceTDiv, Int.reduceTMod, reduceIte, Nat.reduceEqDiff, Nat.reducePow, Int.reducePow, g5, g6, g12, g13, g14, h3]
    · have hlt : i < l.length := by have := toProp h3; omega
      refine ⟨⟨by omega, by omega⟩, ?_⟩
      simp only [go_sem, Nat.reduceBEq, Nat.reduceAdd, Nat.reduceMul, Nat.reduceSub, Nat.reduceLeDiff, Int.reduceAdd, Int.reduceSub, Int.reduceMul, Int.reduceLE, Int.reduceLT, Int.reduceEq, Int.reduceNeg, Int.reduceToNat, Int.reduceTDiv, Int.reduceTMod, reduceIte, Nat.reduceEqDiff, Nat.reducePow, Int.reducePow, g5, g6, g12, g13, g14, entEl]
      have hfl : (l.take (i + 1)).filter live = (l.take i).filter live ++ (if live l[i] = true then [l[i]] else []) := by
        rw [List.take_succ_eq_append_getElem hlt, List.filter_append]
        cases hlv : live l[i] <;> simp [List.filter_cons, hlv]
      have hle : ((l.take i).filter live).length ≤ 1024 := by
        have := List.length_filter_le live (l.take i)
        have := List.length_take_le i l
        omega
      (first | with_reducible refine gO_not ?_ ?_ | with_reducible refine gT_not ?_ ?_ | refine gO_split ?_ ?_ | refine gT_split ?_ ?_) <;> intro a1 <;> simp only [go_sem, Nat.reduceBEq, Nat.reduceAdd, Nat.reduceMul, Nat.reduceSub, Nat.reduceLeDiff, Int.reduceAdd, Int.reduceSub, Int.reduceMul, Int.reduceLE, Int.reduceLT, Int.reduceEq, Int.reduceNeg, Int.reduceToNat, Int.reduceTDiv, Int.reduceTMod, reduceIte, Nat.reduceEqDiff, Nat.reducePow, Int.reducePow, g5, g6, g12, g13, g14, entEl, a1]
      · (first | with_reducible refine condW_not ?_ ?_ | refine condW_split ?_ ?_) <;> intro a2 <;> simp only [go_sem, Nat.reduceBEq, Nat.reduceAdd, Nat.reduceMul, Nat.reduceSub, Nat.reduceLeDiff, Int.reduceAdd, Int.reduceSub, Int.reduceMul, Int.reduceLE, Int.reduceLT, Int.reduceEq, Int.reduceNeg, Int.reduceToNat, Int.reduceTDiv, Int.reduceTMod, reduceIte, Nat.reduceEqDiff, Nat.reducePow, Int.reducePow, g5, g6, g12, g13, g14, entEl, a2]
        · have hlv : live l[i] = true := by simp [live, a1, a2]
          rw [if_pos hlv] at hfl
          refine ⟨⟨by simp [szOk, strEl], by omega⟩, ⟨by simp [szOk, adEl], by omega⟩, by kernel_rfl, i + 1, by omega, by omega, ⟨_, by rw [hfl, List.length_append]; rfl⟩, by rw [hfl, List.map_append]; rfl, by rw [hfl, List.map_append]; rfl, by rw [wrap_i64 (by omega) (by omega)]; rfl⟩
        · have hlv : live l[i] = false := by simp [live, a2]
          rw [if_neg (by rw [hlv]; decide), List.append_nil] at hfl
          exact ⟨i + 1, by omega, by omega, ⟨_, by rw [hfl]⟩, by rw [hfl], by rw [hfl], by rw [wrap_i64 (by omega) (by omega)]; rfl⟩
      · have hlv : live l[i] = false := by simp [live, a1]
        rw [if_neg (by rw [hlv]; decide), List.append_nil] at hfl
        exact ⟨i + 1, by omega, by omega, ⟨_, by rw [hfl]⟩, by rw [hfl], by rw [hfl], by rw [wrap_i64 (by omega) (by omega)]; rfl⟩
    · have : i = l.length := by have := toNot h3; omega
      subst this
      rw [List.take_length] at g5 g6
      rw [List.take_length]
      (first | with_reducible refine condW_not ?_ ?_ | refine condW_split ?_ ?_) <;> intro h4 <;> simp only [go_sem, Nat.reduceBEq, Nat.reduceAdd, Nat.reduceMul, Nat.reduceSub, Nat.reduceLeDiff, Int.reduceAdd, Int.reduceSub, Int.reduceMul, Int.reduceLE, Int.reduceLT, Int.reduceEq, Int.reduceNeg, Int.reduceToNat, Int.reduceTDiv, Int.reduceTMod, reduceIte, Nat.reduceEqDiff, Nat.reducePow, Int.reducePow, g5, g6, h4]
      · rw [namesV, if_pos h1, if_pos (by have := toProp h4; omega)]
      · rw [namesV, if_pos h1, if_neg (by have := toNot h4; omega)]
end Go.Proofs.YtjmldlknegbimaaDoor.Sx
