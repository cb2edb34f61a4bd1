/- Streams and Names of the program. -/
import Derived.Test.YtjmldlknegbimaaGreatDoorB18
set_option linter.unusedVariables false
set_option linter.unusedSimpArgs false
namespace Go.Proofs.YtjmldlknegbimaaGreatDoor.Sx
open Go Go.RowKit
variable {G : Gl}
structure Strm where
  name : List UInt8
  data : List UInt8
  deriving DecidableEq, Inhabited
def stEl (s : Strm) : List DV := [.str s.name, .str s.data]
@[go_sem] theorem stEl_len (s : Strm) : (stEl s).length = 2 := rfl
@[go_sem] theorem stEl_map (s : Strm) : (stEl s).map AV.d = [.d (.str s.name), .d (.str s.data)] := rfl
def adEl (a : Int × Int) : List DV := [.int .i64 a.1, .int .i64 a.2]
@[go_sem] theorem adEl_len (a : Int × Int) : (adEl a).length = 2 := rfl
@[go_sem] theorem adEl_map (a : Int × Int) : (adEl a).map AV.d = [.d (.int .i64 a.1), .d (.int .i64 a.2)] := rfl
def strEl (s : List UInt8) : List DV := [.str s]
@[go_sem] theorem strEl_len (s : List UInt8) : (strEl s).length = 1 := rfl
@[go_sem] theorem strEl_map (s : List UInt8) : (strEl s).map AV.d = [.d (.str s)] := rfl
def parE (p : Int × Int) : Ent := ⟨[], false, true, false, true, false, p.1, p.2, 0⟩
def strE (u : Int) (x : Strm × (Int × Int)) : Ent := ⟨x.1.name, false, false, false, false, false, x.2.1, x.2.2, u⟩
def dirP (p : Int × Int) (l : List Strm) (ic : List (Int × Int)) (u : Int) : List Ent := parE p :: (l.zip ic).map (strE u)
def streamsV (p : Int × Int) (l : List Strm) (ic : List (Int × Int)) (u : Int) : DV :=
  if decide (4 < (l.length : Int)) = true then .tup [.sl .any [], .int .i64 7]
  else if ic.length ≠ l.length then .tup [.sl .any [], .int .i64 1]
  else if validF (dirP p l ic u) = true then .tup [.sl .any ((dirP p l ic u).map entEl), .int .i64 0] else .tup [.sl .any [], .int .i64 1]
def dirI (p : Int × Int) (l : List Strm) (ic : List (Int × Int)) (u : Int) (i : Nat) : List Ent := parE p :: ((l.zip ic).take i).map (strE u)
theorem dirI_len (p : Int × Int) (l : List Strm) (ic : List (Int × Int)) (u : Int) (i : Nat) (h : i ≤ l.length) (h2 : ic.length = l.length) : (dirI p l ic u i).length = i + 1 := by
  simp [dirI]; omega
theorem dirI_succ (p : Int × Int) (l : List Strm) (ic : List (Int × Int)) (u : Int) (i : Nat) (h : i < l.length) (h2 : ic.length = l.length) : dirI p l ic u (i + 1) = dirI p l ic u i ++ [strE u (l[i], ic[i])] := by
  have hz : i < (l.zip ic).length := by simp; omega
  rw [dirI, dirI, List.take_succ_eq_append_getElem hz, List.map_append, List.getElem_zip]
  rfl
theorem szOk_ents (l : List Ent) : szOk 9 (l.map entEl) = true := by simp [szOk, entEl]
def namesV (l : List Ent) : DV :=
  if validF l = true then
    if 4 < (l.filter live).length then .tup [.sl .any [], .sl .any [], .int .i64 7]
    else .tup [.sl .any ((l.filter live).map fun f => strEl f.name), .sl .any ((l.filter live).map fun f => adEl (f.blk, f.prt)), .int .i64 0]
  else .tup [.sl .any [], .sl .any [], .int .i64 1]
end Go.Proofs.YtjmldlknegbimaaGreatDoor.Sx
