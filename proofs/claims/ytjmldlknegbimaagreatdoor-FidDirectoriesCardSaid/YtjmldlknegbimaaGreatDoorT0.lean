/- The types of the seat, as rewrite rules. Printed by wip/tools/types.py. -/
import Derived.Test.YtjmldlknegbimaaGreatDoorProg
import Derived.Test.YtjmldlknegbimaaGreatDoorM4
set_option linter.unusedVariables false
set_option linter.unusedSimpArgs false
namespace Go.Proofs.YtjmldlknegbimaaGreatDoor.Sx
open Go Go.RowKit
theorem mo : Tryz.prog.follows .mixedOrders = true := by kernel_rfl
/-! 3: int -/
@[go_sem] theorem ty_tk3 : tk Tryz.prog 3 = some (.int .i64) := by kernel_rfl
@[go_sem] theorem ty_sz3 : tsz Tryz.prog 3 = some 1 := by kernel_rfl
theorem ty_by3 : tby Tryz.prog 3 = some 8 := by kernel_rfl
@[go_sem] theorem ty_zc3 : zc Tryz.prog 3 = some [.d (.int .i64 0)] := by kernel_rfl
@[go_sem] theorem ty_pa3 (cs : List AV) (off : Nat) : partA Tryz.prog 3 cs off = cs[off]? := partA_one ty_tk3 ty_sz3 (rfl) cs off
/-! 4: bool -/
@[go_sem] theorem ty_tk4 : tk Tryz.prog 4 = some .bool := by kernel_rfl
@[go_sem] theorem ty_sz4 : tsz Tryz.prog 4 = some 1 := by kernel_rfl
theorem ty_by4 : tby Tryz.prog 4 = some 1 := by kernel_rfl
@[go_sem] theorem ty_zc4 : zc Tryz.prog 4 = some [.d (.bool false)] := by kernel_rfl
@[go_sem] theorem ty_pa4 (cs : List AV) (off : Nat) : partA Tryz.prog 4 cs off = cs[off]? := partA_one ty_tk4 ty_sz4 (rfl) cs off
/-! 5: uint8 -/
@[go_sem] theorem ty_tk5 : tk Tryz.prog 5 = some (.int .u8) := by kernel_rfl
@[go_sem] theorem ty_sz5 : tsz Tryz.prog 5 = some 1 := by kernel_rfl
theorem ty_by5 : tby Tryz.prog 5 = some 1 := by kernel_rfl
@[go_sem] theorem ty_zc5 : zc Tryz.prog 5 = some [.d (.int .u8 0)] := by kernel_rfl
@[go_sem] theorem ty_pa5 (cs : List AV) (off : Nat) : partA Tryz.prog 5 cs off = cs[off]? := partA_one ty_tk5 ty_sz5 (rfl) cs off
/-! 9: string -/
@[go_sem] theorem ty_tk9 : tk Tryz.prog 9 = some .string := by kernel_rfl
@[go_sem] theorem ty_sz9 : tsz Tryz.prog 9 = some 1 := by kernel_rfl
theorem ty_by9 : tby Tryz.prog 9 = some 16 := by kernel_rfl
@[go_sem] theorem ty_zc9 : zc Tryz.prog 9 = some [.d (.str [])] := by kernel_rfl
@[go_sem] theorem ty_pa9 (cs : List AV) (off : Nat) : partA Tryz.prog 9 cs off = cs[off]? := partA_one ty_tk9 ty_sz9 (rfl) cs off
/-! 21: int32 -/
@[go_sem] theorem ty_tk21 : tk Tryz.prog 21 = some (.int .i32) := by kernel_rfl
@[go_sem] theorem ty_sz21 : tsz Tryz.prog 21 = some 1 := by kernel_rfl
theorem ty_by21 : tby Tryz.prog 21 = some 4 := by kernel_rfl
@[go_sem] theorem ty_zc21 : zc Tryz.prog 21 = some [.d (.int .i32 0)] := by kernel_rfl
@[go_sem] theorem ty_pa21 (cs : List AV) (off : Nat) : partA Tryz.prog 21 cs off = cs[off]? := partA_one ty_tk21 ty_sz21 (rfl) cs off
/-! 23: api.Address -/
@[go_sem] theorem ty_tk23 : tk Tryz.prog 23 = some (.struct [(3, 0), (3, 1)]) := by kernel_rfl
@[go_sem] theorem ty_sz23 : tsz Tryz.prog 23 = some 2 := by kernel_rfl
theorem ty_by23 : tby Tryz.prog 23 = some 16 := by kernel_rfl
@[go_sem] theorem ty_zc23 : zc Tryz.prog 23 = some [.d (.int .i64 0), .d (.int .i64 0)] := by kernel_rfl
@[go_sem] theorem ty_pl23 : placeL Tryz.prog 23 = some [(0, 1), (1, 1)] := by kernel_rfl
@[go_sem] theorem ty_pa23 (cs : List AV) (off : Nat) : partA Tryz.prog 23 cs off = (if off + 2 ≤ cs.length then some (mkAgg ((cs.drop off).take 2)) else none) := partA_agg ty_tk23 ty_sz23 (rfl) cs off
/-! 25: api.Fid -/
@[go_sem] theorem ty_tk25 : tk Tryz.prog 25 = some (.struct [(9, 0), (4, 1), (4, 2), (4, 3), (4, 4), (4, 5), (23, 6), (3, 8)]) := by kernel_rfl
@[go_sem] theorem ty_sz25 : tsz Tryz.prog 25 = some 9 := by kernel_rfl
theorem ty_by25 : tby Tryz.prog 25 = some 48 := by kernel_rfl
@[go_sem] theorem ty_zc25 : zc Tryz.prog 25 = some [.d (.str []), .d (.bool false), .d (.bool false), .d (.bool false), .d (.bool false), .d (.bool false), .d (.int .i64 0), .d (.int .i64 0), .d (.int .i64 0)] := by kernel_rfl
@[go_sem] theorem ty_pl25 : placeL Tryz.prog 25 = some [(0, 1), (1, 1), (2, 1), (3, 1), (4, 1), (5, 1), (6, 2), (8, 1)] := by kernel_rfl
@[go_sem] theorem ty_pa25 (cs : List AV) (off : Nat) : partA Tryz.prog 25 cs off = (if off + 9 ≤ cs.length then some (mkAgg ((cs.drop off).take 9)) else none) := partA_agg ty_tk25 ty_sz25 (rfl) cs off
/-! 27: api.Errno -/
@[go_sem] theorem ty_tk27 : tk Tryz.prog 27 = some (.int .i64) := by kernel_rfl
@[go_sem] theorem ty_sz27 : tsz Tryz.prog 27 = some 1 := by kernel_rfl
theorem ty_by27 : tby Tryz.prog 27 = some 8 := by kernel_rfl
@[go_sem] theorem ty_zc27 : zc Tryz.prog 27 = some [.d (.int .i64 0)] := by kernel_rfl
@[go_sem] theorem ty_pa27 (cs : List AV) (off : Nat) : partA Tryz.prog 27 cs off = cs[off]? := partA_one ty_tk27 ty_sz27 (rfl) cs off
/-! 36: []api.Fid -/
@[go_sem] theorem ty_tk36 : tk Tryz.prog 36 = some (.slice 25) := by kernel_rfl
@[go_sem] theorem ty_sz36 : tsz Tryz.prog 36 = some 1 := by kernel_rfl
theorem ty_by36 : tby Tryz.prog 36 = some 24 := by kernel_rfl
@[go_sem] theorem ty_zc36 : zc Tryz.prog 36 = some [.d (.sl .nil [])] := by kernel_rfl
@[go_sem] theorem ty_pa36 (cs : List AV) (off : Nat) : partA Tryz.prog 36 cs off = cs[off]? := partA_one ty_tk36 ty_sz36 (rfl) cs off
/-! 37: []int -/
@[go_sem] theorem ty_tk37 : tk Tryz.prog 37 = some (.slice 3) := by kernel_rfl
@[go_sem] theorem ty_sz37 : tsz Tryz.prog 37 = some 1 := by kernel_rfl
theorem ty_by37 : tby Tryz.prog 37 = some 24 := by kernel_rfl
@[go_sem] theorem ty_zc37 : zc Tryz.prog 37 = some [.d (.sl .nil [])] := by kernel_rfl
@[go_sem] theorem ty_pa37 (cs : List AV) (off : Nat) : partA Tryz.prog 37 cs off = cs[off]? := partA_one ty_tk37 ty_sz37 (rfl) cs off
/-! 54: []*bool -/
@[go_sem] theorem ty_tk54 : tk Tryz.prog 54 = some (.slice 57) := by kernel_rfl
@[go_sem] theorem ty_sz54 : tsz Tryz.prog 54 = some 1 := by kernel_rfl
theorem ty_by54 : tby Tryz.prog 54 = some 24 := by kernel_rfl
@[go_sem] theorem ty_zc54 : zc Tryz.prog 54 = some [.d (.sl .nil [])] := by kernel_rfl
@[go_sem] theorem ty_pa54 (cs : List AV) (off : Nat) : partA Tryz.prog 54 cs off = cs[off]? := partA_one ty_tk54 ty_sz54 (rfl) cs off
/-! 57: *bool -/
@[go_sem] theorem ty_tk57 : tk Tryz.prog 57 = some (.ptr 4) := by kernel_rfl
@[go_sem] theorem ty_sz57 : tsz Tryz.prog 57 = some 1 := by kernel_rfl
theorem ty_by57 : tby Tryz.prog 57 = some 8 := by kernel_rfl
@[go_sem] theorem ty_zc57 : zc Tryz.prog 57 = some [.d .nilp] := by kernel_rfl
@[go_sem] theorem ty_pa57 (cs : List AV) (off : Nat) : partA Tryz.prog 57 cs off = cs[off]? := partA_one ty_tk57 ty_sz57 (rfl) cs off
/-! 60: api.Extent -/
@[go_sem] theorem ty_tk60 : tk Tryz.prog 60 = some (.struct [(3, 0), (3, 1), (23, 2)]) := by kernel_rfl
@[go_sem] theorem ty_sz60 : tsz Tryz.prog 60 = some 4 := by kernel_rfl
theorem ty_by60 : tby Tryz.prog 60 = some 32 := by kernel_rfl
@[go_sem] theorem ty_zc60 : zc Tryz.prog 60 = some [.d (.int .i64 0), .d (.int .i64 0), .d (.int .i64 0), .d (.int .i64 0)] := by kernel_rfl
@[go_sem] theorem ty_pl60 : placeL Tryz.prog 60 = some [(0, 1), (1, 1), (2, 2)] := by kernel_rfl
@[go_sem] theorem ty_pa60 (cs : List AV) (off : Nat) : partA Tryz.prog 60 cs off = (if off + 4 ≤ cs.length then some (mkAgg ((cs.drop off).take 4)) else none) := partA_agg ty_tk60 ty_sz60 (rfl) cs off
/-! 61: []api.Extent -/
@[go_sem] theorem ty_tk61 : tk Tryz.prog 61 = some (.slice 60) := by kernel_rfl
@[go_sem] theorem ty_sz61 : tsz Tryz.prog 61 = some 1 := by kernel_rfl
theorem ty_by61 : tby Tryz.prog 61 = some 24 := by kernel_rfl
@[go_sem] theorem ty_zc61 : zc Tryz.prog 61 = some [.d (.sl .nil [])] := by kernel_rfl
@[go_sem] theorem ty_pa61 (cs : List AV) (off : Nat) : partA Tryz.prog 61 cs off = cs[off]? := partA_one ty_tk61 ty_sz61 (rfl) cs off
/-! 65: []uint8 -/
@[go_sem] theorem ty_tk65 : tk Tryz.prog 65 = some (.slice 5) := by kernel_rfl
@[go_sem] theorem ty_sz65 : tsz Tryz.prog 65 = some 1 := by kernel_rfl
theorem ty_by65 : tby Tryz.prog 65 = some 24 := by kernel_rfl
@[go_sem] theorem ty_zc65 : zc Tryz.prog 65 = some [.d (.sl .nil [])] := by kernel_rfl
@[go_sem] theorem ty_pa65 (cs : List AV) (off : Nat) : partA Tryz.prog 65 cs off = cs[off]? := partA_one ty_tk65 ty_sz65 (rfl) cs off
/-! 71: *strings.Builder -/
@[go_sem] theorem ty_tk71 : tk Tryz.prog 71 = some (.ptr 73) := by kernel_rfl
@[go_sem] theorem ty_sz71 : tsz Tryz.prog 71 = some 1 := by kernel_rfl
theorem ty_by71 : tby Tryz.prog 71 = some 8 := by kernel_rfl
@[go_sem] theorem ty_zc71 : zc Tryz.prog 71 = some [.d .nilp] := by kernel_rfl
@[go_sem] theorem ty_pa71 (cs : List AV) (off : Nat) : partA Tryz.prog 71 cs off = cs[off]? := partA_one ty_tk71 ty_sz71 (rfl) cs off
/-! 73: strings.Builder -/
@[go_sem] theorem ty_tk73 : tk Tryz.prog 73 = some (.struct [(71, 0), (65, 1)]) := by kernel_rfl
@[go_sem] theorem ty_sz73 : tsz Tryz.prog 73 = some 2 := by kernel_rfl
theorem ty_by73 : tby Tryz.prog 73 = some 32 := by kernel_rfl
@[go_sem] theorem ty_zc73 : zc Tryz.prog 73 = some [.d .nilp, .d (.sl .nil [])] := by kernel_rfl
@[go_sem] theorem ty_pl73 : placeL Tryz.prog 73 = some [(0, 1), (1, 1)] := by kernel_rfl
@[go_sem] theorem ty_pa73 (cs : List AV) (off : Nat) : partA Tryz.prog 73 cs off = (if off + 2 ≤ cs.length then some (mkAgg ((cs.drop off).take 2)) else none) := partA_agg ty_tk73 ty_sz73 (rfl) cs off
/-! 95: uint -/
@[go_sem] theorem ty_tk95 : tk Tryz.prog 95 = some (.int .u64) := by kernel_rfl
@[go_sem] theorem ty_sz95 : tsz Tryz.prog 95 = some 1 := by kernel_rfl
theorem ty_by95 : tby Tryz.prog 95 = some 8 := by kernel_rfl
@[go_sem] theorem ty_zc95 : zc Tryz.prog 95 = some [.d (.int .u64 0)] := by kernel_rfl
@[go_sem] theorem ty_pa95 (cs : List AV) (off : Nat) : partA Tryz.prog 95 cs off = cs[off]? := partA_one ty_tk95 ty_sz95 (rfl) cs off
/-! 105: api.Tag -/
@[go_sem] theorem ty_tk105 : tk Tryz.prog 105 = some (.struct [(3, 0), (3, 1), (3, 2), (3, 3)]) := by kernel_rfl
@[go_sem] theorem ty_sz105 : tsz Tryz.prog 105 = some 4 := by kernel_rfl
theorem ty_by105 : tby Tryz.prog 105 = some 32 := by kernel_rfl
@[go_sem] theorem ty_zc105 : zc Tryz.prog 105 = some [.d (.int .i64 0), .d (.int .i64 0), .d (.int .i64 0), .d (.int .i64 0)] := by kernel_rfl
@[go_sem] theorem ty_pl105 : placeL Tryz.prog 105 = some [(0, 1), (1, 1), (2, 1), (3, 1)] := by kernel_rfl
@[go_sem] theorem ty_pa105 (cs : List AV) (off : Nat) : partA Tryz.prog 105 cs off = (if off + 4 ≤ cs.length then some (mkAgg ((cs.drop off).take 4)) else none) := partA_agg ty_tk105 ty_sz105 (rfl) cs off
/-! 120: uint32 -/
@[go_sem] theorem ty_tk120 : tk Tryz.prog 120 = some (.int .u32) := by kernel_rfl
@[go_sem] theorem ty_sz120 : tsz Tryz.prog 120 = some 1 := by kernel_rfl
theorem ty_by120 : tby Tryz.prog 120 = some 4 := by kernel_rfl
@[go_sem] theorem ty_zc120 : zc Tryz.prog 120 = some [.d (.int .u32 0)] := by kernel_rfl
@[go_sem] theorem ty_pa120 (cs : List AV) (off : Nat) : partA Tryz.prog 120 cs off = cs[off]? := partA_one ty_tk120 ty_sz120 (rfl) cs off
/-! 123: uint64 -/
@[go_sem] theorem ty_tk123 : tk Tryz.prog 123 = some (.int .u64) := by kernel_rfl
@[go_sem] theorem ty_sz123 : tsz Tryz.prog 123 = some 1 := by kernel_rfl
theorem ty_by123 : tby Tryz.prog 123 = some 8 := by kernel_rfl
@[go_sem] theorem ty_zc123 : zc Tryz.prog 123 = some [.d (.int .u64 0)] := by kernel_rfl
@[go_sem] theorem ty_pa123 (cs : List AV) (off : Nat) : partA Tryz.prog 123 cs off = cs[off]? := partA_one ty_tk123 ty_sz123 (rfl) cs off
/-! 126: uint16 -/
@[go_sem] theorem ty_tk126 : tk Tryz.prog 126 = some (.int .u16) := by kernel_rfl
@[go_sem] theorem ty_sz126 : tsz Tryz.prog 126 = some 1 := by kernel_rfl
theorem ty_by126 : tby Tryz.prog 126 = some 2 := by kernel_rfl
@[go_sem] theorem ty_zc126 : zc Tryz.prog 126 = some [.d (.int .u16 0)] := by kernel_rfl
@[go_sem] theorem ty_pa126 (cs : List AV) (off : Nat) : partA Tryz.prog 126 cs off = cs[off]? := partA_one ty_tk126 ty_sz126 (rfl) cs off
/-! 131: unsafe.Pointer -/
/-! 139: [256]uint16 -/
@[go_sem] theorem ty_tk139 : tk Tryz.prog 139 = some (.array 256 126) := by kernel_rfl
@[go_sem] theorem ty_sz139 : tsz Tryz.prog 139 = some 256 := by kernel_rfl
theorem ty_by139 : tby Tryz.prog 139 = some 512 := by kernel_rfl
@[go_sem] theorem ty_zc139 : zc Tryz.prog 139 = some (List.replicate 256 (.d (.int .u16 0))) := by kernel_rfl
@[go_sem] theorem ty_pa139 (cs : List AV) (off : Nat) : partA Tryz.prog 139 cs off = (if off + 256 ≤ cs.length then some (mkAgg ((cs.drop off).take 256)) else none) := partA_agg ty_tk139 ty_sz139 (rfl) cs off
/-! 141: [256]uint8 -/
@[go_sem] theorem ty_tk141 : tk Tryz.prog 141 = some (.array 256 5) := by kernel_rfl
@[go_sem] theorem ty_sz141 : tsz Tryz.prog 141 = some 256 := by kernel_rfl
theorem ty_by141 : tby Tryz.prog 141 = some 256 := by kernel_rfl
@[go_sem] theorem ty_zc141 : zc Tryz.prog 141 = some (List.replicate 256 (.d (.int .u8 0))) := by kernel_rfl
@[go_sem] theorem ty_pa141 (cs : List AV) (off : Nat) : partA Tryz.prog 141 cs off = (if off + 256 ≤ cs.length then some (mkAgg ((cs.drop off).take 256)) else none) := partA_agg ty_tk141 ty_sz141 (rfl) cs off
/-! 143: utf8.acceptRange -/
@[go_sem] theorem ty_tk143 : tk Tryz.prog 143 = some (.struct [(5, 0), (5, 1)]) := by kernel_rfl
@[go_sem] theorem ty_sz143 : tsz Tryz.prog 143 = some 2 := by kernel_rfl
theorem ty_by143 : tby Tryz.prog 143 = some 2 := by kernel_rfl
@[go_sem] theorem ty_zc143 : zc Tryz.prog 143 = some [.d (.int .u8 0), .d (.int .u8 0)] := by kernel_rfl
@[go_sem] theorem ty_pl143 : placeL Tryz.prog 143 = some [(0, 1), (1, 1)] := by kernel_rfl
@[go_sem] theorem ty_pa143 (cs : List AV) (off : Nat) : partA Tryz.prog 143 cs off = (if off + 2 ≤ cs.length then some (mkAgg ((cs.drop off).take 2)) else none) := partA_agg ty_tk143 ty_sz143 (rfl) cs off
/-! 144: [16]utf8.acceptRange -/
@[go_sem] theorem ty_tk144 : tk Tryz.prog 144 = some (.array 16 143) := by kernel_rfl
@[go_sem] theorem ty_sz144 : tsz Tryz.prog 144 = some 32 := by kernel_rfl
theorem ty_by144 : tby Tryz.prog 144 = some 32 := by kernel_rfl
@[go_sem] theorem ty_pa144 (cs : List AV) (off : Nat) : partA Tryz.prog 144 cs off = (if off + 32 ≤ cs.length then some (mkAgg ((cs.drop off).take 32)) else none) := partA_agg ty_tk144 ty_sz144 (rfl) cs off
@[go_sem] theorem ty_eq4 (x y : AV) (c : Bool) : eqA Tryz.prog 4 x y c = eqBool x y := eqA_Bool ty_tk4 x y c
@[go_sem] theorem ty_ix9 (x i : AV) : ixA Tryz.prog 9 x i = ixS x i := ixA_str ty_tk9 x i
@[go_sem] theorem ty_sl9 (x : AV) (lo hi : Option AV) : slA Tryz.prog 9 x lo hi none = slStr x lo hi := slA_str ty_tk9 x lo hi
@[go_sem] theorem ty_ln9 (x : AV) : lnA Tryz.prog 9 x = lnStr x := lnA_str ty_tk9 x
@[go_sem] theorem ty_fa23_0 (x : AV) : faA Tryz.prog 23 x 0 = faS 0 x := faA_eq (t := 23) (f := 0) (u := 3) (o := 0) (by kernel_rfl) (by kernel_rfl) x
@[go_sem] theorem ty_fi23_0 (x : AV) : fieldA Tryz.prog 23 x 0 = fiS Tryz.prog 3 0 x := fieldA_eq (t := 23) (f := 0) (u := 3) (o := 0) (by kernel_rfl) x
@[go_sem] theorem ty_fa23_1 (x : AV) : faA Tryz.prog 23 x 1 = faS 1 x := faA_eq (t := 23) (f := 1) (u := 3) (o := 1) (by kernel_rfl) (by kernel_rfl) x
@[go_sem] theorem ty_fi23_1 (x : AV) : fieldA Tryz.prog 23 x 1 = fiS Tryz.prog 3 1 x := fieldA_eq (t := 23) (f := 1) (u := 3) (o := 1) (by kernel_rfl) x
@[go_sem] theorem ty_bl23 (ps : List (Nat × AV)) : bldA Tryz.prog 23 ps = blS [(0, 1), (1, 1)] [.d (.int .i64 0), .d (.int .i64 0)] ps := bldA_struct ty_zc23 ty_tk23 ty_pl23 ps
@[go_sem] theorem ty_fa25_0 (x : AV) : faA Tryz.prog 25 x 0 = faS 0 x := faA_eq (t := 25) (f := 0) (u := 9) (o := 0) (by kernel_rfl) (by kernel_rfl) x
@[go_sem] theorem ty_fi25_0 (x : AV) : fieldA Tryz.prog 25 x 0 = fiS Tryz.prog 9 0 x := fieldA_eq (t := 25) (f := 0) (u := 9) (o := 0) (by kernel_rfl) x
@[go_sem] theorem ty_fa25_1 (x : AV) : faA Tryz.prog 25 x 1 = faS 1 x := faA_eq (t := 25) (f := 1) (u := 4) (o := 1) (by kernel_rfl) (by kernel_rfl) x
@[go_sem] theorem ty_fi25_1 (x : AV) : fieldA Tryz.prog 25 x 1 = fiS Tryz.prog 4 1 x := fieldA_eq (t := 25) (f := 1) (u := 4) (o := 1) (by kernel_rfl) x
@[go_sem] theorem ty_fa25_2 (x : AV) : faA Tryz.prog 25 x 2 = faS 2 x := faA_eq (t := 25) (f := 2) (u := 4) (o := 2) (by kernel_rfl) (by kernel_rfl) x
@[go_sem] theorem ty_fi25_2 (x : AV) : fieldA Tryz.prog 25 x 2 = fiS Tryz.prog 4 2 x := fieldA_eq (t := 25) (f := 2) (u := 4) (o := 2) (by kernel_rfl) x
@[go_sem] theorem ty_fa25_3 (x : AV) : faA Tryz.prog 25 x 3 = faS 3 x := faA_eq (t := 25) (f := 3) (u := 4) (o := 3) (by kernel_rfl) (by kernel_rfl) x
@[go_sem] theorem ty_fi25_3 (x : AV) : fieldA Tryz.prog 25 x 3 = fiS Tryz.prog 4 3 x := fieldA_eq (t := 25) (f := 3) (u := 4) (o := 3) (by kernel_rfl) x
@[go_sem] theorem ty_fa25_4 (x : AV) : faA Tryz.prog 25 x 4 = faS 4 x := faA_eq (t := 25) (f := 4) (u := 4) (o := 4) (by kernel_rfl) (by kernel_rfl) x
@[go_sem] theorem ty_fi25_4 (x : AV) : fieldA Tryz.prog 25 x 4 = fiS Tryz.prog 4 4 x := fieldA_eq (t := 25) (f := 4) (u := 4) (o := 4) (by kernel_rfl) x
@[go_sem] theorem ty_fa25_5 (x : AV) : faA Tryz.prog 25 x 5 = faS 5 x := faA_eq (t := 25) (f := 5) (u := 4) (o := 5) (by kernel_rfl) (by kernel_rfl) x
@[go_sem] theorem ty_fi25_5 (x : AV) : fieldA Tryz.prog 25 x 5 = fiS Tryz.prog 4 5 x := fieldA_eq (t := 25) (f := 5) (u := 4) (o := 5) (by kernel_rfl) x
@[go_sem] theorem ty_fa25_6 (x : AV) : faA Tryz.prog 25 x 6 = faS 6 x := faA_eq (t := 25) (f := 6) (u := 23) (o := 6) (by kernel_rfl) (by kernel_rfl) x
@[go_sem] theorem ty_fi25_6 (x : AV) : fieldA Tryz.prog 25 x 6 = fiS Tryz.prog 23 6 x := fieldA_eq (t := 25) (f := 6) (u := 23) (o := 6) (by kernel_rfl) x
@[go_sem] theorem ty_fa25_7 (x : AV) : faA Tryz.prog 25 x 7 = faS 8 x := faA_eq (t := 25) (f := 7) (u := 3) (o := 8) (by kernel_rfl) (by kernel_rfl) x
@[go_sem] theorem ty_fi25_7 (x : AV) : fieldA Tryz.prog 25 x 7 = fiS Tryz.prog 3 8 x := fieldA_eq (t := 25) (f := 7) (u := 3) (o := 8) (by kernel_rfl) x
@[go_sem] theorem ty_bl25 (ps : List (Nat × AV)) : bldA Tryz.prog 25 ps = blS [(0, 1), (1, 1), (2, 1), (3, 1), (4, 1), (5, 1), (6, 2), (8, 1)] [.d (.str []), .d (.bool false), .d (.bool false), .d (.bool false), .d (.bool false), .d (.bool false), .d (.int .i64 0), .d (.int .i64 0), .d (.int .i64 0)] ps := bldA_struct ty_zc25 ty_tk25 ty_pl25 ps
@[go_sem] theorem ty_ia36 (x i : AV) : iaA Tryz.prog 36 x i = iaS 9 x i := iaA_slice ty_tk36 ty_sz25 x i
@[go_sem] theorem ty_sl36 (x : AV) (lo hi : Option AV) : slA Tryz.prog 36 x lo hi none = slS 9 x lo hi := slA_slice ty_tk36 ty_sz25 x lo hi
@[go_sem] theorem ty_ln36 (x : AV) : lnA Tryz.prog 36 x = lnS x := lnA_slice ty_tk36 x
@[go_sem] theorem ty_bs36 (H : List HO) (n : Nat) (ps : List (Nat × AV)) : bsA Tryz.prog H 36 n ps = bsS 9 [.d (.str []), .d (.bool false), .d (.bool false), .d (.bool false), .d (.bool false), .d (.bool false), .d (.int .i64 0), .d (.int .i64 0), .d (.int .i64 0)] H n ps := bsA_eq (z := 9) (zs := [.d (.str []), .d (.bool false), .d (.bool false), .d (.bool false), .d (.bool false), .d (.bool false), .d (.int .i64 0), .d (.int .i64 0), .d (.int .i64 0)]) ty_tk36 ty_sz25 ty_zc25 (rfl) H n ps
@[go_sem] theorem ty_ap36_36 (H : List HO) (s x : AV) : apA Tryz.prog H 36 36 s x = apS 9 48 H s x := apA_slice ty_tk36 ty_tk36 ty_sz25 ty_by25 ty_zc25 (rfl) H s x
@[go_sem] theorem ty_ia37 (x i : AV) : iaA Tryz.prog 37 x i = iaS 1 x i := iaA_slice ty_tk37 ty_sz3 x i
@[go_sem] theorem ty_sl37 (x : AV) (lo hi : Option AV) : slA Tryz.prog 37 x lo hi none = slS 1 x lo hi := slA_slice ty_tk37 ty_sz3 x lo hi
@[go_sem] theorem ty_ln37 (x : AV) : lnA Tryz.prog 37 x = lnS x := lnA_slice ty_tk37 x
@[go_sem] theorem ty_bs37 (H : List HO) (n : Nat) (ps : List (Nat × AV)) : bsA Tryz.prog H 37 n ps = bsS 1 [.d (.int .i64 0)] H n ps := bsA_eq (z := 1) (zs := [.d (.int .i64 0)]) ty_tk37 ty_sz3 ty_zc3 (rfl) H n ps
@[go_sem] theorem ty_mk37 (H : List HO) (l c : AV) : mkA Tryz.prog H 37 l c = mkS 8 (.d (.int .i64 0)) H l c := mkA_eq (z0 := .d (.int .i64 0)) ty_tk37 ty_sz3 ty_by3 ty_zc3 H l c
@[go_sem] theorem ty_ap37_37 (H : List HO) (s x : AV) : apA Tryz.prog H 37 37 s x = apS 1 8 H s x := apA_slice ty_tk37 ty_tk37 ty_sz3 ty_by3 ty_zc3 (rfl) H s x
@[go_sem] theorem ty_ia54 (x i : AV) : iaA Tryz.prog 54 x i = iaS 1 x i := iaA_slice ty_tk54 ty_sz57 x i
@[go_sem] theorem ty_sl54 (x : AV) (lo hi : Option AV) : slA Tryz.prog 54 x lo hi none = slS 1 x lo hi := slA_slice ty_tk54 ty_sz57 x lo hi
@[go_sem] theorem ty_ln54 (x : AV) : lnA Tryz.prog 54 x = lnS x := lnA_slice ty_tk54 x
@[go_sem] theorem ty_bs54 (H : List HO) (n : Nat) (ps : List (Nat × AV)) : bsA Tryz.prog H 54 n ps = bsS 1 [.d .nilp] H n ps := bsA_eq (z := 1) (zs := [.d .nilp]) ty_tk54 ty_sz57 ty_zc57 (rfl) H n ps
@[go_sem] theorem ty_mk54 (H : List HO) (l c : AV) : mkA Tryz.prog H 54 l c = mkS 8 (.d .nilp) H l c := mkA_eq (z0 := .d .nilp) ty_tk54 ty_sz57 ty_by57 ty_zc57 H l c
@[go_sem] theorem ty_eq57 (x y : AV) (c : Bool) : eqA Tryz.prog 57 x y c = eqPtr x y := eqA_Ptr ty_tk57 x y c
@[go_sem] theorem ty_fa60_0 (x : AV) : faA Tryz.prog 60 x 0 = faS 0 x := faA_eq (t := 60) (f := 0) (u := 3) (o := 0) (by kernel_rfl) (by kernel_rfl) x
@[go_sem] theorem ty_fi60_0 (x : AV) : fieldA Tryz.prog 60 x 0 = fiS Tryz.prog 3 0 x := fieldA_eq (t := 60) (f := 0) (u := 3) (o := 0) (by kernel_rfl) x
@[go_sem] theorem ty_fa60_1 (x : AV) : faA Tryz.prog 60 x 1 = faS 1 x := faA_eq (t := 60) (f := 1) (u := 3) (o := 1) (by kernel_rfl) (by kernel_rfl) x
@[go_sem] theorem ty_fi60_1 (x : AV) : fieldA Tryz.prog 60 x 1 = fiS Tryz.prog 3 1 x := fieldA_eq (t := 60) (f := 1) (u := 3) (o := 1) (by kernel_rfl) x
@[go_sem] theorem ty_fa60_2 (x : AV) : faA Tryz.prog 60 x 2 = faS 2 x := faA_eq (t := 60) (f := 2) (u := 23) (o := 2) (by kernel_rfl) (by kernel_rfl) x
@[go_sem] theorem ty_fi60_2 (x : AV) : fieldA Tryz.prog 60 x 2 = fiS Tryz.prog 23 2 x := fieldA_eq (t := 60) (f := 2) (u := 23) (o := 2) (by kernel_rfl) x
@[go_sem] theorem ty_bl60 (ps : List (Nat × AV)) : bldA Tryz.prog 60 ps = blS [(0, 1), (1, 1), (2, 2)] [.d (.int .i64 0), .d (.int .i64 0), .d (.int .i64 0), .d (.int .i64 0)] ps := bldA_struct ty_zc60 ty_tk60 ty_pl60 ps
@[go_sem] theorem ty_ia61 (x i : AV) : iaA Tryz.prog 61 x i = iaS 4 x i := iaA_slice ty_tk61 ty_sz60 x i
@[go_sem] theorem ty_sl61 (x : AV) (lo hi : Option AV) : slA Tryz.prog 61 x lo hi none = slS 4 x lo hi := slA_slice ty_tk61 ty_sz60 x lo hi
@[go_sem] theorem ty_ln61 (x : AV) : lnA Tryz.prog 61 x = lnS x := lnA_slice ty_tk61 x
@[go_sem] theorem ty_bs61 (H : List HO) (n : Nat) (ps : List (Nat × AV)) : bsA Tryz.prog H 61 n ps = bsS 4 [.d (.int .i64 0), .d (.int .i64 0), .d (.int .i64 0), .d (.int .i64 0)] H n ps := bsA_eq (z := 4) (zs := [.d (.int .i64 0), .d (.int .i64 0), .d (.int .i64 0), .d (.int .i64 0)]) ty_tk61 ty_sz60 ty_zc60 (rfl) H n ps
@[go_sem] theorem ty_ia65 (x i : AV) : iaA Tryz.prog 65 x i = iaS 1 x i := iaA_slice ty_tk65 ty_sz5 x i
@[go_sem] theorem ty_sl65 (x : AV) (lo hi : Option AV) : slA Tryz.prog 65 x lo hi none = slS 1 x lo hi := slA_slice ty_tk65 ty_sz5 x lo hi
@[go_sem] theorem ty_ln65 (x : AV) : lnA Tryz.prog 65 x = lnS x := lnA_slice ty_tk65 x
@[go_sem] theorem ty_bs65 (H : List HO) (n : Nat) (ps : List (Nat × AV)) : bsA Tryz.prog H 65 n ps = bsS 1 [.d (.int .u8 0)] H n ps := bsA_eq (z := 1) (zs := [.d (.int .u8 0)]) ty_tk65 ty_sz5 ty_zc5 (rfl) H n ps
@[go_sem] theorem ty_mk65 (H : List HO) (l c : AV) : mkA Tryz.prog H 65 l c = mkS 1 (.d (.int .u8 0)) H l c := mkA_eq (z0 := .d (.int .u8 0)) ty_tk65 ty_sz5 ty_by5 ty_zc5 H l c
@[go_sem] theorem ty_ap65_9 (H : List HO) (s : AV) (x : List UInt8) : apA Tryz.prog H 65 9 s (.d (.str x)) = apB H 1 1 s (x.map byteEl) := apA_str ty_tk65 ty_tk9 ty_sz5 ty_by5 ty_zc5 H s x
@[go_sem] theorem ty_ap65_65 (H : List HO) (s x : AV) : apA Tryz.prog H 65 65 s x = apS 1 1 H s x := apA_slice ty_tk65 ty_tk65 ty_sz5 ty_by5 ty_zc5 (rfl) H s x
@[go_sem] theorem ty_eq71 (x y : AV) (c : Bool) : eqA Tryz.prog 71 x y c = eqPtr x y := eqA_Ptr ty_tk71 x y c
@[go_sem] theorem ty_fa73_0 (x : AV) : faA Tryz.prog 73 x 0 = faS 0 x := faA_eq (t := 73) (f := 0) (u := 71) (o := 0) (by kernel_rfl) (by kernel_rfl) x
@[go_sem] theorem ty_fi73_0 (x : AV) : fieldA Tryz.prog 73 x 0 = fiS Tryz.prog 71 0 x := fieldA_eq (t := 73) (f := 0) (u := 71) (o := 0) (by kernel_rfl) x
@[go_sem] theorem ty_fa73_1 (x : AV) : faA Tryz.prog 73 x 1 = faS 1 x := faA_eq (t := 73) (f := 1) (u := 65) (o := 1) (by kernel_rfl) (by kernel_rfl) x
@[go_sem] theorem ty_fi73_1 (x : AV) : fieldA Tryz.prog 73 x 1 = fiS Tryz.prog 65 1 x := fieldA_eq (t := 73) (f := 1) (u := 65) (o := 1) (by kernel_rfl) x
@[go_sem] theorem ty_bl73 (ps : List (Nat × AV)) : bldA Tryz.prog 73 ps = blS [(0, 1), (1, 1)] [.d .nilp, .d (.sl .nil [])] ps := bldA_struct ty_zc73 ty_tk73 ty_pl73 ps
@[go_sem] theorem ty_fa105_0 (x : AV) : faA Tryz.prog 105 x 0 = faS 0 x := faA_eq (t := 105) (f := 0) (u := 3) (o := 0) (by kernel_rfl) (by kernel_rfl) x
@[go_sem] theorem ty_fi105_0 (x : AV) : fieldA Tryz.prog 105 x 0 = fiS Tryz.prog 3 0 x := fieldA_eq (t := 105) (f := 0) (u := 3) (o := 0) (by kernel_rfl) x
@[go_sem] theorem ty_fa105_1 (x : AV) : faA Tryz.prog 105 x 1 = faS 1 x := faA_eq (t := 105) (f := 1) (u := 3) (o := 1) (by kernel_rfl) (by kernel_rfl) x
@[go_sem] theorem ty_fi105_1 (x : AV) : fieldA Tryz.prog 105 x 1 = fiS Tryz.prog 3 1 x := fieldA_eq (t := 105) (f := 1) (u := 3) (o := 1) (by kernel_rfl) x
@[go_sem] theorem ty_fa105_2 (x : AV) : faA Tryz.prog 105 x 2 = faS 2 x := faA_eq (t := 105) (f := 2) (u := 3) (o := 2) (by kernel_rfl) (by kernel_rfl) x
@[go_sem] theorem ty_fi105_2 (x : AV) : fieldA Tryz.prog 105 x 2 = fiS Tryz.prog 3 2 x := fieldA_eq (t := 105) (f := 2) (u := 3) (o := 2) (by kernel_rfl) x
@[go_sem] theorem ty_fa105_3 (x : AV) : faA Tryz.prog 105 x 3 = faS 3 x := faA_eq (t := 105) (f := 3) (u := 3) (o := 3) (by kernel_rfl) (by kernel_rfl) x
@[go_sem] theorem ty_fi105_3 (x : AV) : fieldA Tryz.prog 105 x 3 = fiS Tryz.prog 3 3 x := fieldA_eq (t := 105) (f := 3) (u := 3) (o := 3) (by kernel_rfl) x
@[go_sem] theorem ty_bl105 (ps : List (Nat × AV)) : bldA Tryz.prog 105 ps = blS [(0, 1), (1, 1), (2, 1), (3, 1)] [.d (.int .i64 0), .d (.int .i64 0), .d (.int .i64 0), .d (.int .i64 0)] ps := bldA_struct ty_zc105 ty_tk105 ty_pl105 ps
@[go_sem] theorem ty_ia139 (x i : AV) : iaA Tryz.prog 139 x i = iaAr 256 1 x i := iaA_array ty_tk139 ty_sz126 x i
@[go_sem] theorem ty_ix139 (x i : AV) : ixA Tryz.prog 139 x i = ixAr Tryz.prog 126 256 1 x i := ixA_array ty_tk139 ty_sz126 x i
@[go_sem] theorem ty_ia141 (x i : AV) : iaA Tryz.prog 141 x i = iaAr 256 1 x i := iaA_array ty_tk141 ty_sz5 x i
@[go_sem] theorem ty_ix141 (x i : AV) : ixA Tryz.prog 141 x i = ixAr Tryz.prog 5 256 1 x i := ixA_array ty_tk141 ty_sz5 x i
@[go_sem] theorem ty_fa143_0 (x : AV) : faA Tryz.prog 143 x 0 = faS 0 x := faA_eq (t := 143) (f := 0) (u := 5) (o := 0) (by kernel_rfl) (by kernel_rfl) x
@[go_sem] theorem ty_fi143_0 (x : AV) : fieldA Tryz.prog 143 x 0 = fiS Tryz.prog 5 0 x := fieldA_eq (t := 143) (f := 0) (u := 5) (o := 0) (by kernel_rfl) x
@[go_sem] theorem ty_fa143_1 (x : AV) : faA Tryz.prog 143 x 1 = faS 1 x := faA_eq (t := 143) (f := 1) (u := 5) (o := 1) (by kernel_rfl) (by kernel_rfl) x
@[go_sem] theorem ty_fi143_1 (x : AV) : fieldA Tryz.prog 143 x 1 = fiS Tryz.prog 5 1 x := fieldA_eq (t := 143) (f := 1) (u := 5) (o := 1) (by kernel_rfl) x
@[go_sem] theorem ty_bl143 (ps : List (Nat × AV)) : bldA Tryz.prog 143 ps = blS [(0, 1), (1, 1)] [.d (.int .u8 0), .d (.int .u8 0)] ps := bldA_struct ty_zc143 ty_tk143 ty_pl143 ps
@[go_sem] theorem ty_ia144 (x i : AV) : iaA Tryz.prog 144 x i = iaAr 16 2 x i := iaA_array ty_tk144 ty_sz143 x i
@[go_sem] theorem ty_ix144 (x i : AV) : ixA Tryz.prog 144 x i = ixAr Tryz.prog 143 16 2 x i := ixA_array ty_tk144 ty_sz143 x i
@[go_sem] theorem ty_bd25 : bldE Tryz.prog 25 = none := by kernel_rfl
@[go_sem] theorem ty_bd27 : bldE Tryz.prog 27 = none := by kernel_rfl
@[go_sem] theorem ty_bd36 : bldE Tryz.prog 36 = none := by kernel_rfl
@[go_sem] theorem ty_bd37 : bldE Tryz.prog 37 = none := by kernel_rfl
@[go_sem] theorem ty_bd60 : bldE Tryz.prog 60 = none := by kernel_rfl
@[go_sem] theorem ty_bd73 : bldE Tryz.prog 73 = some 5 := by kernel_rfl
@[go_sem] theorem ty_bd105 : bldE Tryz.prog 105 = none := by kernel_rfl
@[go_sem] theorem ty_bd139 : bldE Tryz.prog 139 = none := by kernel_rfl
@[go_sem] theorem ty_bd143 : bldE Tryz.prog 143 = none := by kernel_rfl
@[go_sem] theorem ty_cv3_5 (H : List HO) (k : IntKind) (n : Int) : cvX Tryz.prog H 3 5 (.d (.int k n)) = some (.d (.int .u8 (IntKind.wrap .u8 n)), H) := cvX_int ty_tk3 ty_tk5 H k n
@[go_sem] theorem ty_cw3_5 (H : List HO) (k : IntKind) (n : Int) (kp : AV → Prop) (kh : AV → List HO → Prop) : cvT Tryz.prog H 3 5 (.d (.int k n)) kp kh = kp (.d (.int .u8 (IntKind.wrap .u8 n))) := cvT_int ty_tk3 ty_tk5 H k n kp kh
@[go_sem] theorem ty_cv3_95 (H : List HO) (k : IntKind) (n : Int) : cvX Tryz.prog H 3 95 (.d (.int k n)) = some (.d (.int .u64 (IntKind.wrap .u64 n)), H) := cvX_int ty_tk3 ty_tk95 H k n
@[go_sem] theorem ty_cw3_95 (H : List HO) (k : IntKind) (n : Int) (kp : AV → Prop) (kh : AV → List HO → Prop) : cvT Tryz.prog H 3 95 (.d (.int k n)) kp kh = kp (.d (.int .u64 (IntKind.wrap .u64 n))) := cvT_int ty_tk3 ty_tk95 H k n kp kh
@[go_sem] theorem ty_cv5_3 (H : List HO) (k : IntKind) (n : Int) : cvX Tryz.prog H 5 3 (.d (.int k n)) = some (.d (.int .i64 (IntKind.wrap .i64 n)), H) := cvX_int ty_tk5 ty_tk3 H k n
@[go_sem] theorem ty_cw5_3 (H : List HO) (k : IntKind) (n : Int) (kp : AV → Prop) (kh : AV → List HO → Prop) : cvT Tryz.prog H 5 3 (.d (.int k n)) kp kh = kp (.d (.int .i64 (IntKind.wrap .i64 n))) := cvT_int ty_tk5 ty_tk3 H k n kp kh
@[go_sem] theorem ty_cv5_21 (H : List HO) (k : IntKind) (n : Int) : cvX Tryz.prog H 5 21 (.d (.int k n)) = some (.d (.int .i32 (IntKind.wrap .i32 n)), H) := cvX_int ty_tk5 ty_tk21 H k n
@[go_sem] theorem ty_cw5_21 (H : List HO) (k : IntKind) (n : Int) (kp : AV → Prop) (kh : AV → List HO → Prop) : cvT Tryz.prog H 5 21 (.d (.int k n)) kp kh = kp (.d (.int .i32 (IntKind.wrap .i32 n))) := cvT_int ty_tk5 ty_tk21 H k n kp kh
@[go_sem] theorem ty_cv5_123 (H : List HO) (k : IntKind) (n : Int) : cvX Tryz.prog H 5 123 (.d (.int k n)) = some (.d (.int .u64 (IntKind.wrap .u64 n)), H) := cvX_int ty_tk5 ty_tk123 H k n
@[go_sem] theorem ty_cw5_123 (H : List HO) (k : IntKind) (n : Int) (kp : AV → Prop) (kh : AV → List HO → Prop) : cvT Tryz.prog H 5 123 (.d (.int k n)) kp kh = kp (.d (.int .u64 (IntKind.wrap .u64 n))) := cvT_int ty_tk5 ty_tk123 H k n kp kh
@[go_sem] theorem ty_cv5_126 (H : List HO) (k : IntKind) (n : Int) : cvX Tryz.prog H 5 126 (.d (.int k n)) = some (.d (.int .u16 (IntKind.wrap .u16 n)), H) := cvX_int ty_tk5 ty_tk126 H k n
@[go_sem] theorem ty_cw5_126 (H : List HO) (k : IntKind) (n : Int) (kp : AV → Prop) (kh : AV → List HO → Prop) : cvT Tryz.prog H 5 126 (.d (.int k n)) kp kh = kp (.d (.int .u16 (IntKind.wrap .u16 n))) := cvT_int ty_tk5 ty_tk126 H k n kp kh
@[go_sem] theorem ty_cv9_65 (H : List HO) (x : List UInt8) : cvX Tryz.prog H 9 65 (.d (.str x)) = some (.d (.sl .any (x.map byteEl)), H) := cvX_sb ty_tk9 ty_tk65 ty_tk5 H x
@[go_sem] theorem ty_cw9_65 (H : List HO) (x : List UInt8) (kp : AV → Prop) (kh : AV → List HO → Prop) : cvT Tryz.prog H 9 65 (.d (.str x)) kp kh = kh (.d (.sl .any (x.map byteEl))) H := cvT_sb ty_tk9 ty_tk65 ty_tk5 H x kp kh
@[go_sem] theorem ty_cv21_3 (H : List HO) (k : IntKind) (n : Int) : cvX Tryz.prog H 21 3 (.d (.int k n)) = some (.d (.int .i64 (IntKind.wrap .i64 n)), H) := cvX_int ty_tk21 ty_tk3 H k n
@[go_sem] theorem ty_cw21_3 (H : List HO) (k : IntKind) (n : Int) (kp : AV → Prop) (kh : AV → List HO → Prop) : cvT Tryz.prog H 21 3 (.d (.int k n)) kp kh = kp (.d (.int .i64 (IntKind.wrap .i64 n))) := cvT_int ty_tk21 ty_tk3 H k n kp kh
@[go_sem] theorem ty_cv21_5 (H : List HO) (k : IntKind) (n : Int) : cvX Tryz.prog H 21 5 (.d (.int k n)) = some (.d (.int .u8 (IntKind.wrap .u8 n)), H) := cvX_int ty_tk21 ty_tk5 H k n
@[go_sem] theorem ty_cw21_5 (H : List HO) (k : IntKind) (n : Int) (kp : AV → Prop) (kh : AV → List HO → Prop) : cvT Tryz.prog H 21 5 (.d (.int k n)) kp kh = kp (.d (.int .u8 (IntKind.wrap .u8 n))) := cvT_int ty_tk21 ty_tk5 H k n kp kh
@[go_sem] theorem ty_cv21_120 (H : List HO) (k : IntKind) (n : Int) : cvX Tryz.prog H 21 120 (.d (.int k n)) = some (.d (.int .u32 (IntKind.wrap .u32 n)), H) := cvX_int ty_tk21 ty_tk120 H k n
@[go_sem] theorem ty_cw21_120 (H : List HO) (k : IntKind) (n : Int) (kp : AV → Prop) (kh : AV → List HO → Prop) : cvT Tryz.prog H 21 120 (.d (.int k n)) kp kh = kp (.d (.int .u32 (IntKind.wrap .u32 n))) := cvT_int ty_tk21 ty_tk120 H k n kp kh
@[go_sem] theorem ty_cv65_9 (H : List HO) (x : AV) : cvX Tryz.prog H 65 9 x = cvBy H x := cvX_bytes ty_tk65 ty_tk9 ty_tk5 H x
@[go_sem] theorem ty_cw65_9 (H : List HO) (x : AV) (kp : AV → Prop) (kh : AV → List HO → Prop) : cvT Tryz.prog H 65 9 x kp kh = cvTB H x kp kh := cvT_bytes ty_tk65 ty_tk9 ty_tk5 H x kp kh
@[go_sem] theorem ty_cv95_3 (H : List HO) (k : IntKind) (n : Int) : cvX Tryz.prog H 95 3 (.d (.int k n)) = some (.d (.int .i64 (IntKind.wrap .i64 n)), H) := cvX_int ty_tk95 ty_tk3 H k n
@[go_sem] theorem ty_cw95_3 (H : List HO) (k : IntKind) (n : Int) (kp : AV → Prop) (kh : AV → List HO → Prop) : cvT Tryz.prog H 95 3 (.d (.int k n)) kp kh = kp (.d (.int .i64 (IntKind.wrap .i64 n))) := cvT_int ty_tk95 ty_tk3 H k n kp kh
@[go_sem] theorem ty_cv95_120 (H : List HO) (k : IntKind) (n : Int) : cvX Tryz.prog H 95 120 (.d (.int k n)) = some (.d (.int .u32 (IntKind.wrap .u32 n)), H) := cvX_int ty_tk95 ty_tk120 H k n
@[go_sem] theorem ty_cw95_120 (H : List HO) (k : IntKind) (n : Int) (kp : AV → Prop) (kh : AV → List HO → Prop) : cvT Tryz.prog H 95 120 (.d (.int k n)) kp kh = kp (.d (.int .u32 (IntKind.wrap .u32 n))) := cvT_int ty_tk95 ty_tk120 H k n kp kh
@[go_sem] theorem ty_cv120_95 (H : List HO) (k : IntKind) (n : Int) : cvX Tryz.prog H 120 95 (.d (.int k n)) = some (.d (.int .u64 (IntKind.wrap .u64 n)), H) := cvX_int ty_tk120 ty_tk95 H k n
@[go_sem] theorem ty_cw120_95 (H : List HO) (k : IntKind) (n : Int) (kp : AV → Prop) (kh : AV → List HO → Prop) : cvT Tryz.prog H 120 95 (.d (.int k n)) kp kh = kp (.d (.int .u64 (IntKind.wrap .u64 n))) := cvT_int ty_tk120 ty_tk95 H k n kp kh
@[go_sem] theorem ty_cv120_123 (H : List HO) (k : IntKind) (n : Int) : cvX Tryz.prog H 120 123 (.d (.int k n)) = some (.d (.int .u64 (IntKind.wrap .u64 n)), H) := cvX_int ty_tk120 ty_tk123 H k n
@[go_sem] theorem ty_cw120_123 (H : List HO) (k : IntKind) (n : Int) (kp : AV → Prop) (kh : AV → List HO → Prop) : cvT Tryz.prog H 120 123 (.d (.int k n)) kp kh = kp (.d (.int .u64 (IntKind.wrap .u64 n))) := cvT_int ty_tk120 ty_tk123 H k n kp kh
@[go_sem] theorem ty_cv123_3 (H : List HO) (k : IntKind) (n : Int) : cvX Tryz.prog H 123 3 (.d (.int k n)) = some (.d (.int .i64 (IntKind.wrap .i64 n)), H) := cvX_int ty_tk123 ty_tk3 H k n
@[go_sem] theorem ty_cw123_3 (H : List HO) (k : IntKind) (n : Int) (kp : AV → Prop) (kh : AV → List HO → Prop) : cvT Tryz.prog H 123 3 (.d (.int k n)) kp kh = kp (.d (.int .i64 (IntKind.wrap .i64 n))) := cvT_int ty_tk123 ty_tk3 H k n kp kh
@[go_sem] theorem ty_cv123_120 (H : List HO) (k : IntKind) (n : Int) : cvX Tryz.prog H 123 120 (.d (.int k n)) = some (.d (.int .u32 (IntKind.wrap .u32 n)), H) := cvX_int ty_tk123 ty_tk120 H k n
@[go_sem] theorem ty_cw123_120 (H : List HO) (k : IntKind) (n : Int) (kp : AV → Prop) (kh : AV → List HO → Prop) : cvT Tryz.prog H 123 120 (.d (.int k n)) kp kh = kp (.d (.int .u32 (IntKind.wrap .u32 n))) := cvT_int ty_tk123 ty_tk120 H k n kp kh
@[go_sem] theorem ty_cv126_3 (H : List HO) (k : IntKind) (n : Int) : cvX Tryz.prog H 126 3 (.d (.int k n)) = some (.d (.int .i64 (IntKind.wrap .i64 n)), H) := cvX_int ty_tk126 ty_tk3 H k n
@[go_sem] theorem ty_cw126_3 (H : List HO) (k : IntKind) (n : Int) (kp : AV → Prop) (kh : AV → List HO → Prop) : cvT Tryz.prog H 126 3 (.d (.int k n)) kp kh = kp (.d (.int .i64 (IntKind.wrap .i64 n))) := cvT_int ty_tk126 ty_tk3 H k n kp kh
@[go_sem] theorem ty_cv126_5 (H : List HO) (k : IntKind) (n : Int) : cvX Tryz.prog H 126 5 (.d (.int k n)) = some (.d (.int .u8 (IntKind.wrap .u8 n)), H) := cvX_int ty_tk126 ty_tk5 H k n
@[go_sem] theorem ty_cw126_5 (H : List HO) (k : IntKind) (n : Int) (kp : AV → Prop) (kh : AV → List HO → Prop) : cvT Tryz.prog H 126 5 (.d (.int k n)) kp kh = kp (.d (.int .u8 (IntKind.wrap .u8 n))) := cvT_int ty_tk126 ty_tk5 H k n kp kh
theorem ty_ek25 : eqOk Tryz.prog 25 = some [.str, .bool, .bool, .bool, .bool, .bool, .int .i64, .int .i64, .int .i64] := by kernel_rfl
@[go_sem] theorem ty_eq25 (x y : AV) (c : Bool) : eqA Tryz.prog 25 x y c = eqSt [.str, .bool, .bool, .bool, .bool, .bool, .int .i64, .int .i64, .int .i64] x y := eqA_struct ty_tk25 ty_ek25 x y c
end Go.Proofs.YtjmldlknegbimaaGreatDoor.Sx
