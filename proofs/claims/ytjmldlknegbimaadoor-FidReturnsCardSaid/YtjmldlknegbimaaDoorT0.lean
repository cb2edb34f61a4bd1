/- The types of the seat, as rewrite rules. Printed by wip/tools/types.py. -/
import Derived.Test.YtjmldlknegbimaaDoorProg
import Derived.Test.YtjmldlknegbimaaDoorM4
set_option linter.unusedVariables false
set_option linter.unusedSimpArgs false
namespace Go.Proofs.YtjmldlknegbimaaDoor.Sx
open Go Go.RowKit
theorem mo : Tryd.prog.follows .mixedOrders = true := by kernel_rfl
/-! 3: int -/
@[go_sem] theorem ty_tk3 : tk Tryd.prog 3 = some (.int .i64) := by kernel_rfl
@[go_sem] theorem ty_sz3 : tsz Tryd.prog 3 = some 1 := by kernel_rfl
theorem ty_by3 : tby Tryd.prog 3 = some 8 := by kernel_rfl
@[go_sem] theorem ty_zc3 : zc Tryd.prog 3 = some [.d (.int .i64 0)] := by kernel_rfl
@[go_sem] theorem ty_pa3 (cs : List AV) (off : Nat) : partA Tryd.prog 3 cs off = cs[off]? := partA_one ty_tk3 ty_sz3 (rfl) cs off
/-! 4: bool -/
@[go_sem] theorem ty_tk4 : tk Tryd.prog 4 = some .bool := by kernel_rfl
@[go_sem] theorem ty_sz4 : tsz Tryd.prog 4 = some 1 := by kernel_rfl
theorem ty_by4 : tby Tryd.prog 4 = some 1 := by kernel_rfl
@[go_sem] theorem ty_zc4 : zc Tryd.prog 4 = some [.d (.bool false)] := by kernel_rfl
@[go_sem] theorem ty_pa4 (cs : List AV) (off : Nat) : partA Tryd.prog 4 cs off = cs[off]? := partA_one ty_tk4 ty_sz4 (rfl) cs off
/-! 5: uint8 -/
@[go_sem] theorem ty_tk5 : tk Tryd.prog 5 = some (.int .u8) := by kernel_rfl
@[go_sem] theorem ty_sz5 : tsz Tryd.prog 5 = some 1 := by kernel_rfl
theorem ty_by5 : tby Tryd.prog 5 = some 1 := by kernel_rfl
@[go_sem] theorem ty_zc5 : zc Tryd.prog 5 = some [.d (.int .u8 0)] := by kernel_rfl
@[go_sem] theorem ty_pa5 (cs : List AV) (off : Nat) : partA Tryd.prog 5 cs off = cs[off]? := partA_one ty_tk5 ty_sz5 (rfl) cs off
/-! 9: string -/
@[go_sem] theorem ty_tk9 : tk Tryd.prog 9 = some .string := by kernel_rfl
@[go_sem] theorem ty_sz9 : tsz Tryd.prog 9 = some 1 := by kernel_rfl
theorem ty_by9 : tby Tryd.prog 9 = some 16 := by kernel_rfl
@[go_sem] theorem ty_zc9 : zc Tryd.prog 9 = some [.d (.str [])] := by kernel_rfl
@[go_sem] theorem ty_pa9 (cs : List AV) (off : Nat) : partA Tryd.prog 9 cs off = cs[off]? := partA_one ty_tk9 ty_sz9 (rfl) cs off
/-! 21: int32 -/
@[go_sem] theorem ty_tk21 : tk Tryd.prog 21 = some (.int .i32) := by kernel_rfl
@[go_sem] theorem ty_sz21 : tsz Tryd.prog 21 = some 1 := by kernel_rfl
theorem ty_by21 : tby Tryd.prog 21 = some 4 := by kernel_rfl
@[go_sem] theorem ty_zc21 : zc Tryd.prog 21 = some [.d (.int .i32 0)] := by kernel_rfl
@[go_sem] theorem ty_pa21 (cs : List AV) (off : Nat) : partA Tryd.prog 21 cs off = cs[off]? := partA_one ty_tk21 ty_sz21 (rfl) cs off
/-! 22: []api.Attribute -/
@[go_sem] theorem ty_tk22 : tk Tryd.prog 22 = some (.slice 38) := by kernel_rfl
@[go_sem] theorem ty_sz22 : tsz Tryd.prog 22 = some 1 := by kernel_rfl
theorem ty_by22 : tby Tryd.prog 22 = some 24 := by kernel_rfl
@[go_sem] theorem ty_zc22 : zc Tryd.prog 22 = some [.d (.sl .nil [])] := by kernel_rfl
@[go_sem] theorem ty_pa22 (cs : List AV) (off : Nat) : partA Tryd.prog 22 cs off = cs[off]? := partA_one ty_tk22 ty_sz22 (rfl) cs off
/-! 25: api.Errno -/
@[go_sem] theorem ty_tk25 : tk Tryd.prog 25 = some (.int .i64) := by kernel_rfl
@[go_sem] theorem ty_sz25 : tsz Tryd.prog 25 = some 1 := by kernel_rfl
theorem ty_by25 : tby Tryd.prog 25 = some 8 := by kernel_rfl
@[go_sem] theorem ty_zc25 : zc Tryd.prog 25 = some [.d (.int .i64 0)] := by kernel_rfl
@[go_sem] theorem ty_pa25 (cs : List AV) (off : Nat) : partA Tryd.prog 25 cs off = cs[off]? := partA_one ty_tk25 ty_sz25 (rfl) cs off
/-! 33: uint32 -/
@[go_sem] theorem ty_tk33 : tk Tryd.prog 33 = some (.int .u32) := by kernel_rfl
@[go_sem] theorem ty_sz33 : tsz Tryd.prog 33 = some 1 := by kernel_rfl
theorem ty_by33 : tby Tryd.prog 33 = some 4 := by kernel_rfl
@[go_sem] theorem ty_zc33 : zc Tryd.prog 33 = some [.d (.int .u32 0)] := by kernel_rfl
@[go_sem] theorem ty_pa33 (cs : List AV) (off : Nat) : partA Tryd.prog 33 cs off = cs[off]? := partA_one ty_tk33 ty_sz33 (rfl) cs off
/-! 34: uint -/
@[go_sem] theorem ty_tk34 : tk Tryd.prog 34 = some (.int .u64) := by kernel_rfl
@[go_sem] theorem ty_sz34 : tsz Tryd.prog 34 = some 1 := by kernel_rfl
theorem ty_by34 : tby Tryd.prog 34 = some 8 := by kernel_rfl
@[go_sem] theorem ty_zc34 : zc Tryd.prog 34 = some [.d (.int .u64 0)] := by kernel_rfl
@[go_sem] theorem ty_pa34 (cs : List AV) (off : Nat) : partA Tryd.prog 34 cs off = cs[off]? := partA_one ty_tk34 ty_sz34 (rfl) cs off
/-! 36: []int -/
@[go_sem] theorem ty_tk36 : tk Tryd.prog 36 = some (.slice 3) := by kernel_rfl
@[go_sem] theorem ty_sz36 : tsz Tryd.prog 36 = some 1 := by kernel_rfl
theorem ty_by36 : tby Tryd.prog 36 = some 24 := by kernel_rfl
@[go_sem] theorem ty_zc36 : zc Tryd.prog 36 = some [.d (.sl .nil [])] := by kernel_rfl
@[go_sem] theorem ty_pa36 (cs : List AV) (off : Nat) : partA Tryd.prog 36 cs off = cs[off]? := partA_one ty_tk36 ty_sz36 (rfl) cs off
/-! 38: api.Attribute -/
@[go_sem] theorem ty_tk38 : tk Tryd.prog 38 = some (.struct [(3, 0), (3, 1), (9, 2)]) := by kernel_rfl
@[go_sem] theorem ty_sz38 : tsz Tryd.prog 38 = some 3 := by kernel_rfl
theorem ty_by38 : tby Tryd.prog 38 = some 32 := by kernel_rfl
@[go_sem] theorem ty_zc38 : zc Tryd.prog 38 = some [.d (.int .i64 0), .d (.int .i64 0), .d (.str [])] := by kernel_rfl
@[go_sem] theorem ty_pl38 : placeL Tryd.prog 38 = some [(0, 1), (1, 1), (2, 1)] := by kernel_rfl
@[go_sem] theorem ty_pa38 (cs : List AV) (off : Nat) : partA Tryd.prog 38 cs off = (if off + 3 ≤ cs.length then some (mkAgg ((cs.drop off).take 3)) else none) := partA_agg ty_tk38 ty_sz38 (rfl) cs off
/-! 41: api.Address -/
@[go_sem] theorem ty_tk41 : tk Tryd.prog 41 = some (.struct [(3, 0), (3, 1)]) := by kernel_rfl
@[go_sem] theorem ty_sz41 : tsz Tryd.prog 41 = some 2 := by kernel_rfl
theorem ty_by41 : tby Tryd.prog 41 = some 16 := by kernel_rfl
@[go_sem] theorem ty_zc41 : zc Tryd.prog 41 = some [.d (.int .i64 0), .d (.int .i64 0)] := by kernel_rfl
@[go_sem] theorem ty_pl41 : placeL Tryd.prog 41 = some [(0, 1), (1, 1)] := by kernel_rfl
@[go_sem] theorem ty_pa41 (cs : List AV) (off : Nat) : partA Tryd.prog 41 cs off = (if off + 2 ≤ cs.length then some (mkAgg ((cs.drop off).take 2)) else none) := partA_agg ty_tk41 ty_sz41 (rfl) cs off
/-! 42: []api.Stream -/
@[go_sem] theorem ty_tk42 : tk Tryd.prog 42 = some (.slice 59) := by kernel_rfl
@[go_sem] theorem ty_sz42 : tsz Tryd.prog 42 = some 1 := by kernel_rfl
theorem ty_by42 : tby Tryd.prog 42 = some 24 := by kernel_rfl
@[go_sem] theorem ty_zc42 : zc Tryd.prog 42 = some [.d (.sl .nil [])] := by kernel_rfl
@[go_sem] theorem ty_pa42 (cs : List AV) (off : Nat) : partA Tryd.prog 42 cs off = cs[off]? := partA_one ty_tk42 ty_sz42 (rfl) cs off
/-! 43: []api.Address -/
@[go_sem] theorem ty_tk43 : tk Tryd.prog 43 = some (.slice 41) := by kernel_rfl
@[go_sem] theorem ty_sz43 : tsz Tryd.prog 43 = some 1 := by kernel_rfl
theorem ty_by43 : tby Tryd.prog 43 = some 24 := by kernel_rfl
@[go_sem] theorem ty_zc43 : zc Tryd.prog 43 = some [.d (.sl .nil [])] := by kernel_rfl
@[go_sem] theorem ty_pa43 (cs : List AV) (off : Nat) : partA Tryd.prog 43 cs off = cs[off]? := partA_one ty_tk43 ty_sz43 (rfl) cs off
/-! 44: []api.Fid -/
@[go_sem] theorem ty_tk44 : tk Tryd.prog 44 = some (.slice 57) := by kernel_rfl
@[go_sem] theorem ty_sz44 : tsz Tryd.prog 44 = some 1 := by kernel_rfl
theorem ty_by44 : tby Tryd.prog 44 = some 24 := by kernel_rfl
@[go_sem] theorem ty_zc44 : zc Tryd.prog 44 = some [.d (.sl .nil [])] := by kernel_rfl
@[go_sem] theorem ty_pa44 (cs : List AV) (off : Nat) : partA Tryd.prog 44 cs off = cs[off]? := partA_one ty_tk44 ty_sz44 (rfl) cs off
/-! 49: []string -/
@[go_sem] theorem ty_tk49 : tk Tryd.prog 49 = some (.slice 9) := by kernel_rfl
@[go_sem] theorem ty_sz49 : tsz Tryd.prog 49 = some 1 := by kernel_rfl
theorem ty_by49 : tby Tryd.prog 49 = some 24 := by kernel_rfl
@[go_sem] theorem ty_zc49 : zc Tryd.prog 49 = some [.d (.sl .nil [])] := by kernel_rfl
@[go_sem] theorem ty_pa49 (cs : List AV) (off : Nat) : partA Tryd.prog 49 cs off = cs[off]? := partA_one ty_tk49 ty_sz49 (rfl) cs off
/-! 57: api.Fid -/
@[go_sem] theorem ty_tk57 : tk Tryd.prog 57 = some (.struct [(9, 0), (4, 1), (4, 2), (4, 3), (4, 4), (4, 5), (41, 6), (3, 8)]) := by kernel_rfl
@[go_sem] theorem ty_sz57 : tsz Tryd.prog 57 = some 9 := by kernel_rfl
theorem ty_by57 : tby Tryd.prog 57 = some 48 := by kernel_rfl
@[go_sem] theorem ty_zc57 : zc Tryd.prog 57 = some [.d (.str []), .d (.bool false), .d (.bool false), .d (.bool false), .d (.bool false), .d (.bool false), .d (.int .i64 0), .d (.int .i64 0), .d (.int .i64 0)] := by kernel_rfl
@[go_sem] theorem ty_pl57 : placeL Tryd.prog 57 = some [(0, 1), (1, 1), (2, 1), (3, 1), (4, 1), (5, 1), (6, 2), (8, 1)] := by kernel_rfl
@[go_sem] theorem ty_pa57 (cs : List AV) (off : Nat) : partA Tryd.prog 57 cs off = (if off + 9 ≤ cs.length then some (mkAgg ((cs.drop off).take 9)) else none) := partA_agg ty_tk57 ty_sz57 (rfl) cs off
/-! 59: api.Stream -/
@[go_sem] theorem ty_tk59 : tk Tryd.prog 59 = some (.struct [(9, 0), (9, 1)]) := by kernel_rfl
@[go_sem] theorem ty_sz59 : tsz Tryd.prog 59 = some 2 := by kernel_rfl
theorem ty_by59 : tby Tryd.prog 59 = some 32 := by kernel_rfl
@[go_sem] theorem ty_zc59 : zc Tryd.prog 59 = some [.d (.str []), .d (.str [])] := by kernel_rfl
@[go_sem] theorem ty_pl59 : placeL Tryd.prog 59 = some [(0, 1), (1, 1)] := by kernel_rfl
@[go_sem] theorem ty_pa59 (cs : List AV) (off : Nat) : partA Tryd.prog 59 cs off = (if off + 2 ≤ cs.length then some (mkAgg ((cs.drop off).take 2)) else none) := partA_agg ty_tk59 ty_sz59 (rfl) cs off
/-! 93: []*bool -/
@[go_sem] theorem ty_tk93 : tk Tryd.prog 93 = some (.slice 96) := by kernel_rfl
@[go_sem] theorem ty_sz93 : tsz Tryd.prog 93 = some 1 := by kernel_rfl
theorem ty_by93 : tby Tryd.prog 93 = some 24 := by kernel_rfl
@[go_sem] theorem ty_zc93 : zc Tryd.prog 93 = some [.d (.sl .nil [])] := by kernel_rfl
@[go_sem] theorem ty_pa93 (cs : List AV) (off : Nat) : partA Tryd.prog 93 cs off = cs[off]? := partA_one ty_tk93 ty_sz93 (rfl) cs off
/-! 96: *bool -/
@[go_sem] theorem ty_tk96 : tk Tryd.prog 96 = some (.ptr 4) := by kernel_rfl
@[go_sem] theorem ty_sz96 : tsz Tryd.prog 96 = some 1 := by kernel_rfl
theorem ty_by96 : tby Tryd.prog 96 = some 8 := by kernel_rfl
@[go_sem] theorem ty_zc96 : zc Tryd.prog 96 = some [.d .nilp] := by kernel_rfl
@[go_sem] theorem ty_pa96 (cs : List AV) (off : Nat) : partA Tryd.prog 96 cs off = cs[off]? := partA_one ty_tk96 ty_sz96 (rfl) cs off
/-! 99: api.Extent -/
@[go_sem] theorem ty_tk99 : tk Tryd.prog 99 = some (.struct [(3, 0), (3, 1), (41, 2)]) := by kernel_rfl
@[go_sem] theorem ty_sz99 : tsz Tryd.prog 99 = some 4 := by kernel_rfl
theorem ty_by99 : tby Tryd.prog 99 = some 32 := by kernel_rfl
@[go_sem] theorem ty_zc99 : zc Tryd.prog 99 = some [.d (.int .i64 0), .d (.int .i64 0), .d (.int .i64 0), .d (.int .i64 0)] := by kernel_rfl
@[go_sem] theorem ty_pl99 : placeL Tryd.prog 99 = some [(0, 1), (1, 1), (2, 2)] := by kernel_rfl
@[go_sem] theorem ty_pa99 (cs : List AV) (off : Nat) : partA Tryd.prog 99 cs off = (if off + 4 ≤ cs.length then some (mkAgg ((cs.drop off).take 4)) else none) := partA_agg ty_tk99 ty_sz99 (rfl) cs off
/-! 100: []api.Extent -/
@[go_sem] theorem ty_tk100 : tk Tryd.prog 100 = some (.slice 99) := by kernel_rfl
@[go_sem] theorem ty_sz100 : tsz Tryd.prog 100 = some 1 := by kernel_rfl
theorem ty_by100 : tby Tryd.prog 100 = some 24 := by kernel_rfl
@[go_sem] theorem ty_zc100 : zc Tryd.prog 100 = some [.d (.sl .nil [])] := by kernel_rfl
@[go_sem] theorem ty_pa100 (cs : List AV) (off : Nat) : partA Tryd.prog 100 cs off = cs[off]? := partA_one ty_tk100 ty_sz100 (rfl) cs off
/-! 104: *strings.Builder -/
@[go_sem] theorem ty_tk104 : tk Tryd.prog 104 = some (.ptr 107) := by kernel_rfl
@[go_sem] theorem ty_sz104 : tsz Tryd.prog 104 = some 1 := by kernel_rfl
theorem ty_by104 : tby Tryd.prog 104 = some 8 := by kernel_rfl
@[go_sem] theorem ty_zc104 : zc Tryd.prog 104 = some [.d .nilp] := by kernel_rfl
@[go_sem] theorem ty_pa104 (cs : List AV) (off : Nat) : partA Tryd.prog 104 cs off = cs[off]? := partA_one ty_tk104 ty_sz104 (rfl) cs off
/-! 105: []uint8 -/
@[go_sem] theorem ty_tk105 : tk Tryd.prog 105 = some (.slice 5) := by kernel_rfl
@[go_sem] theorem ty_sz105 : tsz Tryd.prog 105 = some 1 := by kernel_rfl
theorem ty_by105 : tby Tryd.prog 105 = some 24 := by kernel_rfl
@[go_sem] theorem ty_zc105 : zc Tryd.prog 105 = some [.d (.sl .nil [])] := by kernel_rfl
@[go_sem] theorem ty_pa105 (cs : List AV) (off : Nat) : partA Tryd.prog 105 cs off = cs[off]? := partA_one ty_tk105 ty_sz105 (rfl) cs off
/-! 107: strings.Builder -/
@[go_sem] theorem ty_tk107 : tk Tryd.prog 107 = some (.struct [(104, 0), (105, 1)]) := by kernel_rfl
@[go_sem] theorem ty_sz107 : tsz Tryd.prog 107 = some 2 := by kernel_rfl
theorem ty_by107 : tby Tryd.prog 107 = some 32 := by kernel_rfl
@[go_sem] theorem ty_zc107 : zc Tryd.prog 107 = some [.d .nilp, .d (.sl .nil [])] := by kernel_rfl
@[go_sem] theorem ty_pl107 : placeL Tryd.prog 107 = some [(0, 1), (1, 1)] := by kernel_rfl
@[go_sem] theorem ty_pa107 (cs : List AV) (off : Nat) : partA Tryd.prog 107 cs off = (if off + 2 ≤ cs.length then some (mkAgg ((cs.drop off).take 2)) else none) := partA_agg ty_tk107 ty_sz107 (rfl) cs off
/-! 121: extattr.key -/
@[go_sem] theorem ty_tk121 : tk Tryd.prog 121 = some (.struct [(3, 0), (3, 1)]) := by kernel_rfl
@[go_sem] theorem ty_sz121 : tsz Tryd.prog 121 = some 2 := by kernel_rfl
theorem ty_by121 : tby Tryd.prog 121 = some 16 := by kernel_rfl
@[go_sem] theorem ty_zc121 : zc Tryd.prog 121 = some [.d (.int .i64 0), .d (.int .i64 0)] := by kernel_rfl
@[go_sem] theorem ty_pl121 : placeL Tryd.prog 121 = some [(0, 1), (1, 1)] := by kernel_rfl
@[go_sem] theorem ty_pa121 (cs : List AV) (off : Nat) : partA Tryd.prog 121 cs off = (if off + 2 ≤ cs.length then some (mkAgg ((cs.drop off).take 2)) else none) := partA_agg ty_tk121 ty_sz121 (rfl) cs off
/-! 132: api.Tag -/
@[go_sem] theorem ty_tk132 : tk Tryd.prog 132 = some (.struct [(3, 0), (3, 1), (3, 2), (3, 3)]) := by kernel_rfl
@[go_sem] theorem ty_sz132 : tsz Tryd.prog 132 = some 4 := by kernel_rfl
theorem ty_by132 : tby Tryd.prog 132 = some 32 := by kernel_rfl
@[go_sem] theorem ty_zc132 : zc Tryd.prog 132 = some [.d (.int .i64 0), .d (.int .i64 0), .d (.int .i64 0), .d (.int .i64 0)] := by kernel_rfl
@[go_sem] theorem ty_pl132 : placeL Tryd.prog 132 = some [(0, 1), (1, 1), (2, 1), (3, 1)] := by kernel_rfl
@[go_sem] theorem ty_pa132 (cs : List AV) (off : Nat) : partA Tryd.prog 132 cs off = (if off + 4 ≤ cs.length then some (mkAgg ((cs.drop off).take 4)) else none) := partA_agg ty_tk132 ty_sz132 (rfl) cs off
/-! 153: uint16 -/
@[go_sem] theorem ty_tk153 : tk Tryd.prog 153 = some (.int .u16) := by kernel_rfl
@[go_sem] theorem ty_sz153 : tsz Tryd.prog 153 = some 1 := by kernel_rfl
theorem ty_by153 : tby Tryd.prog 153 = some 2 := by kernel_rfl
@[go_sem] theorem ty_zc153 : zc Tryd.prog 153 = some [.d (.int .u16 0)] := by kernel_rfl
@[go_sem] theorem ty_pa153 (cs : List AV) (off : Nat) : partA Tryd.prog 153 cs off = cs[off]? := partA_one ty_tk153 ty_sz153 (rfl) cs off
/-! 159: uint64 -/
@[go_sem] theorem ty_tk159 : tk Tryd.prog 159 = some (.int .u64) := by kernel_rfl
@[go_sem] theorem ty_sz159 : tsz Tryd.prog 159 = some 1 := by kernel_rfl
theorem ty_by159 : tby Tryd.prog 159 = some 8 := by kernel_rfl
@[go_sem] theorem ty_zc159 : zc Tryd.prog 159 = some [.d (.int .u64 0)] := by kernel_rfl
@[go_sem] theorem ty_pa159 (cs : List AV) (off : Nat) : partA Tryd.prog 159 cs off = cs[off]? := partA_one ty_tk159 ty_sz159 (rfl) cs off
/-! 172: unsafe.Pointer -/
/-! 182: [256]uint16 -/
@[go_sem] theorem ty_tk182 : tk Tryd.prog 182 = some (.array 256 153) := by kernel_rfl
@[go_sem] theorem ty_sz182 : tsz Tryd.prog 182 = some 256 := by kernel_rfl
theorem ty_by182 : tby Tryd.prog 182 = some 512 := by kernel_rfl
@[go_sem] theorem ty_zc182 : zc Tryd.prog 182 = some (List.replicate 256 (.d (.int .u16 0))) := by kernel_rfl
@[go_sem] theorem ty_pa182 (cs : List AV) (off : Nat) : partA Tryd.prog 182 cs off = (if off + 256 ≤ cs.length then some (mkAgg ((cs.drop off).take 256)) else none) := partA_agg ty_tk182 ty_sz182 (rfl) cs off
/-! 187: [256]uint8 -/
@[go_sem] theorem ty_tk187 : tk Tryd.prog 187 = some (.array 256 5) := by kernel_rfl
@[go_sem] theorem ty_sz187 : tsz Tryd.prog 187 = some 256 := by kernel_rfl
theorem ty_by187 : tby Tryd.prog 187 = some 256 := by kernel_rfl
@[go_sem] theorem ty_zc187 : zc Tryd.prog 187 = some (List.replicate 256 (.d (.int .u8 0))) := by kernel_rfl
@[go_sem] theorem ty_pa187 (cs : List AV) (off : Nat) : partA Tryd.prog 187 cs off = (if off + 256 ≤ cs.length then some (mkAgg ((cs.drop off).take 256)) else none) := partA_agg ty_tk187 ty_sz187 (rfl) cs off
/-! 189: utf8.acceptRange -/
@[go_sem] theorem ty_tk189 : tk Tryd.prog 189 = some (.struct [(5, 0), (5, 1)]) := by kernel_rfl
@[go_sem] theorem ty_sz189 : tsz Tryd.prog 189 = some 2 := by kernel_rfl
theorem ty_by189 : tby Tryd.prog 189 = some 2 := by kernel_rfl
@[go_sem] theorem ty_zc189 : zc Tryd.prog 189 = some [.d (.int .u8 0), .d (.int .u8 0)] := by kernel_rfl
@[go_sem] theorem ty_pl189 : placeL Tryd.prog 189 = some [(0, 1), (1, 1)] := by kernel_rfl
@[go_sem] theorem ty_pa189 (cs : List AV) (off : Nat) : partA Tryd.prog 189 cs off = (if off + 2 ≤ cs.length then some (mkAgg ((cs.drop off).take 2)) else none) := partA_agg ty_tk189 ty_sz189 (rfl) cs off
/-! 190: [16]utf8.acceptRange -/
@[go_sem] theorem ty_tk190 : tk Tryd.prog 190 = some (.array 16 189) := by kernel_rfl
@[go_sem] theorem ty_sz190 : tsz Tryd.prog 190 = some 32 := by kernel_rfl
theorem ty_by190 : tby Tryd.prog 190 = some 32 := by kernel_rfl
@[go_sem] theorem ty_pa190 (cs : List AV) (off : Nat) : partA Tryd.prog 190 cs off = (if off + 32 ≤ cs.length then some (mkAgg ((cs.drop off).take 32)) else none) := partA_agg ty_tk190 ty_sz190 (rfl) cs off
@[go_sem] theorem ty_eq4 (x y : AV) (c : Bool) : eqA Tryd.prog 4 x y c = eqBool x y := eqA_Bool ty_tk4 x y c
@[go_sem] theorem ty_ix9 (x i : AV) : ixA Tryd.prog 9 x i = ixS x i := ixA_str ty_tk9 x i
@[go_sem] theorem ty_sl9 (x : AV) (lo hi : Option AV) : slA Tryd.prog 9 x lo hi none = slStr x lo hi := slA_str ty_tk9 x lo hi
@[go_sem] theorem ty_ln9 (x : AV) : lnA Tryd.prog 9 x = lnStr x := lnA_str ty_tk9 x
@[go_sem] theorem ty_ia22 (x i : AV) : iaA Tryd.prog 22 x i = iaS 3 x i := iaA_slice ty_tk22 ty_sz38 x i
@[go_sem] theorem ty_sl22 (x : AV) (lo hi : Option AV) : slA Tryd.prog 22 x lo hi none = slS 3 x lo hi := slA_slice ty_tk22 ty_sz38 x lo hi
@[go_sem] theorem ty_ln22 (x : AV) : lnA Tryd.prog 22 x = lnS x := lnA_slice ty_tk22 x
@[go_sem] theorem ty_bs22 (H : List HO) (n : Nat) (ps : List (Nat × AV)) : bsA Tryd.prog H 22 n ps = bsS 3 [.d (.int .i64 0), .d (.int .i64 0), .d (.str [])] H n ps := bsA_eq (z := 3) (zs := [.d (.int .i64 0), .d (.int .i64 0), .d (.str [])]) ty_tk22 ty_sz38 ty_zc38 (rfl) H n ps
@[go_sem] theorem ty_ap22_22 (H : List HO) (s x : AV) : apA Tryd.prog H 22 22 s x = apS 3 32 H s x := apA_slice ty_tk22 ty_tk22 ty_sz38 ty_by38 ty_zc38 (rfl) H s x
@[go_sem] theorem ty_ia36 (x i : AV) : iaA Tryd.prog 36 x i = iaS 1 x i := iaA_slice ty_tk36 ty_sz3 x i
@[go_sem] theorem ty_sl36 (x : AV) (lo hi : Option AV) : slA Tryd.prog 36 x lo hi none = slS 1 x lo hi := slA_slice ty_tk36 ty_sz3 x lo hi
@[go_sem] theorem ty_ln36 (x : AV) : lnA Tryd.prog 36 x = lnS x := lnA_slice ty_tk36 x
@[go_sem] theorem ty_bs36 (H : List HO) (n : Nat) (ps : List (Nat × AV)) : bsA Tryd.prog H 36 n ps = bsS 1 [.d (.int .i64 0)] H n ps := bsA_eq (z := 1) (zs := [.d (.int .i64 0)]) ty_tk36 ty_sz3 ty_zc3 (rfl) H n ps
@[go_sem] theorem ty_mk36 (H : List HO) (l c : AV) : mkA Tryd.prog H 36 l c = mkS 8 (.d (.int .i64 0)) H l c := mkA_eq (z0 := .d (.int .i64 0)) ty_tk36 ty_sz3 ty_by3 ty_zc3 H l c
@[go_sem] theorem ty_ap36_36 (H : List HO) (s x : AV) : apA Tryd.prog H 36 36 s x = apS 1 8 H s x := apA_slice ty_tk36 ty_tk36 ty_sz3 ty_by3 ty_zc3 (rfl) H s x
@[go_sem] theorem ty_fa38_0 (x : AV) : faA Tryd.prog 38 x 0 = faS 0 x := faA_eq (t := 38) (f := 0) (u := 3) (o := 0) (by kernel_rfl) (by kernel_rfl) x
@[go_sem] theorem ty_fi38_0 (x : AV) : fieldA Tryd.prog 38 x 0 = fiS Tryd.prog 3 0 x := fieldA_eq (t := 38) (f := 0) (u := 3) (o := 0) (by kernel_rfl) x
@[go_sem] theorem ty_fa38_1 (x : AV) : faA Tryd.prog 38 x 1 = faS 1 x := faA_eq (t := 38) (f := 1) (u := 3) (o := 1) (by kernel_rfl) (by kernel_rfl) x
@[go_sem] theorem ty_fi38_1 (x : AV) : fieldA Tryd.prog 38 x 1 = fiS Tryd.prog 3 1 x := fieldA_eq (t := 38) (f := 1) (u := 3) (o := 1) (by kernel_rfl) x
@[go_sem] theorem ty_fa38_2 (x : AV) : faA Tryd.prog 38 x 2 = faS 2 x := faA_eq (t := 38) (f := 2) (u := 9) (o := 2) (by kernel_rfl) (by kernel_rfl) x
@[go_sem] theorem ty_fi38_2 (x : AV) : fieldA Tryd.prog 38 x 2 = fiS Tryd.prog 9 2 x := fieldA_eq (t := 38) (f := 2) (u := 9) (o := 2) (by kernel_rfl) x
@[go_sem] theorem ty_bl38 (ps : List (Nat × AV)) : bldA Tryd.prog 38 ps = blS [(0, 1), (1, 1), (2, 1)] [.d (.int .i64 0), .d (.int .i64 0), .d (.str [])] ps := bldA_struct ty_zc38 ty_tk38 ty_pl38 ps
@[go_sem] theorem ty_fa41_0 (x : AV) : faA Tryd.prog 41 x 0 = faS 0 x := faA_eq (t := 41) (f := 0) (u := 3) (o := 0) (by kernel_rfl) (by kernel_rfl) x
@[go_sem] theorem ty_fi41_0 (x : AV) : fieldA Tryd.prog 41 x 0 = fiS Tryd.prog 3 0 x := fieldA_eq (t := 41) (f := 0) (u := 3) (o := 0) (by kernel_rfl) x
@[go_sem] theorem ty_fa41_1 (x : AV) : faA Tryd.prog 41 x 1 = faS 1 x := faA_eq (t := 41) (f := 1) (u := 3) (o := 1) (by kernel_rfl) (by kernel_rfl) x
@[go_sem] theorem ty_fi41_1 (x : AV) : fieldA Tryd.prog 41 x 1 = fiS Tryd.prog 3 1 x := fieldA_eq (t := 41) (f := 1) (u := 3) (o := 1) (by kernel_rfl) x
@[go_sem] theorem ty_bl41 (ps : List (Nat × AV)) : bldA Tryd.prog 41 ps = blS [(0, 1), (1, 1)] [.d (.int .i64 0), .d (.int .i64 0)] ps := bldA_struct ty_zc41 ty_tk41 ty_pl41 ps
@[go_sem] theorem ty_ia42 (x i : AV) : iaA Tryd.prog 42 x i = iaS 2 x i := iaA_slice ty_tk42 ty_sz59 x i
@[go_sem] theorem ty_sl42 (x : AV) (lo hi : Option AV) : slA Tryd.prog 42 x lo hi none = slS 2 x lo hi := slA_slice ty_tk42 ty_sz59 x lo hi
@[go_sem] theorem ty_ln42 (x : AV) : lnA Tryd.prog 42 x = lnS x := lnA_slice ty_tk42 x
@[go_sem] theorem ty_bs42 (H : List HO) (n : Nat) (ps : List (Nat × AV)) : bsA Tryd.prog H 42 n ps = bsS 2 [.d (.str []), .d (.str [])] H n ps := bsA_eq (z := 2) (zs := [.d (.str []), .d (.str [])]) ty_tk42 ty_sz59 ty_zc59 (rfl) H n ps
@[go_sem] theorem ty_ia43 (x i : AV) : iaA Tryd.prog 43 x i = iaS 2 x i := iaA_slice ty_tk43 ty_sz41 x i
@[go_sem] theorem ty_sl43 (x : AV) (lo hi : Option AV) : slA Tryd.prog 43 x lo hi none = slS 2 x lo hi := slA_slice ty_tk43 ty_sz41 x lo hi
@[go_sem] theorem ty_ln43 (x : AV) : lnA Tryd.prog 43 x = lnS x := lnA_slice ty_tk43 x
@[go_sem] theorem ty_bs43 (H : List HO) (n : Nat) (ps : List (Nat × AV)) : bsA Tryd.prog H 43 n ps = bsS 2 [.d (.int .i64 0), .d (.int .i64 0)] H n ps := bsA_eq (z := 2) (zs := [.d (.int .i64 0), .d (.int .i64 0)]) ty_tk43 ty_sz41 ty_zc41 (rfl) H n ps
@[go_sem] theorem ty_ap43_43 (H : List HO) (s x : AV) : apA Tryd.prog H 43 43 s x = apS 2 16 H s x := apA_slice ty_tk43 ty_tk43 ty_sz41 ty_by41 ty_zc41 (rfl) H s x
@[go_sem] theorem ty_ia44 (x i : AV) : iaA Tryd.prog 44 x i = iaS 9 x i := iaA_slice ty_tk44 ty_sz57 x i
@[go_sem] theorem ty_sl44 (x : AV) (lo hi : Option AV) : slA Tryd.prog 44 x lo hi none = slS 9 x lo hi := slA_slice ty_tk44 ty_sz57 x lo hi
@[go_sem] theorem ty_ln44 (x : AV) : lnA Tryd.prog 44 x = lnS x := lnA_slice ty_tk44 x
@[go_sem] theorem ty_bs44 (H : List HO) (n : Nat) (ps : List (Nat × AV)) : bsA Tryd.prog H 44 n ps = bsS 9 [.d (.str []), .d (.bool false), .d (.bool false), .d (.bool false), .d (.bool false), .d (.bool false), .d (.int .i64 0), .d (.int .i64 0), .d (.int .i64 0)] H n ps := bsA_eq (z := 9) (zs := [.d (.str []), .d (.bool false), .d (.bool false), .d (.bool false), .d (.bool false), .d (.bool false), .d (.int .i64 0), .d (.int .i64 0), .d (.int .i64 0)]) ty_tk44 ty_sz57 ty_zc57 (rfl) H n ps
@[go_sem] theorem ty_ap44_44 (H : List HO) (s x : AV) : apA Tryd.prog H 44 44 s x = apS 9 48 H s x := apA_slice ty_tk44 ty_tk44 ty_sz57 ty_by57 ty_zc57 (rfl) H s x
@[go_sem] theorem ty_ia49 (x i : AV) : iaA Tryd.prog 49 x i = iaS 1 x i := iaA_slice ty_tk49 ty_sz9 x i
@[go_sem] theorem ty_sl49 (x : AV) (lo hi : Option AV) : slA Tryd.prog 49 x lo hi none = slS 1 x lo hi := slA_slice ty_tk49 ty_sz9 x lo hi
@[go_sem] theorem ty_ln49 (x : AV) : lnA Tryd.prog 49 x = lnS x := lnA_slice ty_tk49 x
@[go_sem] theorem ty_bs49 (H : List HO) (n : Nat) (ps : List (Nat × AV)) : bsA Tryd.prog H 49 n ps = bsS 1 [.d (.str [])] H n ps := bsA_eq (z := 1) (zs := [.d (.str [])]) ty_tk49 ty_sz9 ty_zc9 (rfl) H n ps
@[go_sem] theorem ty_mk49 (H : List HO) (l c : AV) : mkA Tryd.prog H 49 l c = mkS 16 (.d (.str [])) H l c := mkA_eq (z0 := .d (.str [])) ty_tk49 ty_sz9 ty_by9 ty_zc9 H l c
@[go_sem] theorem ty_ap49_49 (H : List HO) (s x : AV) : apA Tryd.prog H 49 49 s x = apS 1 16 H s x := apA_slice ty_tk49 ty_tk49 ty_sz9 ty_by9 ty_zc9 (rfl) H s x
@[go_sem] theorem ty_fa57_0 (x : AV) : faA Tryd.prog 57 x 0 = faS 0 x := faA_eq (t := 57) (f := 0) (u := 9) (o := 0) (by kernel_rfl) (by kernel_rfl) x
@[go_sem] theorem ty_fi57_0 (x : AV) : fieldA Tryd.prog 57 x 0 = fiS Tryd.prog 9 0 x := fieldA_eq (t := 57) (f := 0) (u := 9) (o := 0) (by kernel_rfl) x
@[go_sem] theorem ty_fa57_1 (x : AV) : faA Tryd.prog 57 x 1 = faS 1 x := faA_eq (t := 57) (f := 1) (u := 4) (o := 1) (by kernel_rfl) (by kernel_rfl) x
@[go_sem] theorem ty_fi57_1 (x : AV) : fieldA Tryd.prog 57 x 1 = fiS Tryd.prog 4 1 x := fieldA_eq (t := 57) (f := 1) (u := 4) (o := 1) (by kernel_rfl) x
@[go_sem] theorem ty_fa57_2 (x : AV) : faA Tryd.prog 57 x 2 = faS 2 x := faA_eq (t := 57) (f := 2) (u := 4) (o := 2) (by kernel_rfl) (by kernel_rfl) x
@[go_sem] theorem ty_fi57_2 (x : AV) : fieldA Tryd.prog 57 x 2 = fiS Tryd.prog 4 2 x := fieldA_eq (t := 57) (f := 2) (u := 4) (o := 2) (by kernel_rfl) x
@[go_sem] theorem ty_fa57_3 (x : AV) : faA Tryd.prog 57 x 3 = faS 3 x := faA_eq (t := 57) (f := 3) (u := 4) (o := 3) (by kernel_rfl) (by kernel_rfl) x
@[go_sem] theorem ty_fi57_3 (x : AV) : fieldA Tryd.prog 57 x 3 = fiS Tryd.prog 4 3 x := fieldA_eq (t := 57) (f := 3) (u := 4) (o := 3) (by kernel_rfl) x
@[go_sem] theorem ty_fa57_4 (x : AV) : faA Tryd.prog 57 x 4 = faS 4 x := faA_eq (t := 57) (f := 4) (u := 4) (o := 4) (by kernel_rfl) (by kernel_rfl) x
@[go_sem] theorem ty_fi57_4 (x : AV) : fieldA Tryd.prog 57 x 4 = fiS Tryd.prog 4 4 x := fieldA_eq (t := 57) (f := 4) (u := 4) (o := 4) (by kernel_rfl) x
@[go_sem] theorem ty_fa57_5 (x : AV) : faA Tryd.prog 57 x 5 = faS 5 x := faA_eq (t := 57) (f := 5) (u := 4) (o := 5) (by kernel_rfl) (by kernel_rfl) x
@[go_sem] theorem ty_fi57_5 (x : AV) : fieldA Tryd.prog 57 x 5 = fiS Tryd.prog 4 5 x := fieldA_eq (t := 57) (f := 5) (u := 4) (o := 5) (by kernel_rfl) x
@[go_sem] theorem ty_fa57_6 (x : AV) : faA Tryd.prog 57 x 6 = faS 6 x := faA_eq (t := 57) (f := 6) (u := 41) (o := 6) (by kernel_rfl) (by kernel_rfl) x
@[go_sem] theorem ty_fi57_6 (x : AV) : fieldA Tryd.prog 57 x 6 = fiS Tryd.prog 41 6 x := fieldA_eq (t := 57) (f := 6) (u := 41) (o := 6) (by kernel_rfl) x
@[go_sem] theorem ty_fa57_7 (x : AV) : faA Tryd.prog 57 x 7 = faS 8 x := faA_eq (t := 57) (f := 7) (u := 3) (o := 8) (by kernel_rfl) (by kernel_rfl) x
@[go_sem] theorem ty_fi57_7 (x : AV) : fieldA Tryd.prog 57 x 7 = fiS Tryd.prog 3 8 x := fieldA_eq (t := 57) (f := 7) (u := 3) (o := 8) (by kernel_rfl) x
@[go_sem] theorem ty_bl57 (ps : List (Nat × AV)) : bldA Tryd.prog 57 ps = blS [(0, 1), (1, 1), (2, 1), (3, 1), (4, 1), (5, 1), (6, 2), (8, 1)] [.d (.str []), .d (.bool false), .d (.bool false), .d (.bool false), .d (.bool false), .d (.bool false), .d (.int .i64 0), .d (.int .i64 0), .d (.int .i64 0)] ps := bldA_struct ty_zc57 ty_tk57 ty_pl57 ps
@[go_sem] theorem ty_fa59_0 (x : AV) : faA Tryd.prog 59 x 0 = faS 0 x := faA_eq (t := 59) (f := 0) (u := 9) (o := 0) (by kernel_rfl) (by kernel_rfl) x
@[go_sem] theorem ty_fi59_0 (x : AV) : fieldA Tryd.prog 59 x 0 = fiS Tryd.prog 9 0 x := fieldA_eq (t := 59) (f := 0) (u := 9) (o := 0) (by kernel_rfl) x
@[go_sem] theorem ty_fa59_1 (x : AV) : faA Tryd.prog 59 x 1 = faS 1 x := faA_eq (t := 59) (f := 1) (u := 9) (o := 1) (by kernel_rfl) (by kernel_rfl) x
@[go_sem] theorem ty_fi59_1 (x : AV) : fieldA Tryd.prog 59 x 1 = fiS Tryd.prog 9 1 x := fieldA_eq (t := 59) (f := 1) (u := 9) (o := 1) (by kernel_rfl) x
@[go_sem] theorem ty_bl59 (ps : List (Nat × AV)) : bldA Tryd.prog 59 ps = blS [(0, 1), (1, 1)] [.d (.str []), .d (.str [])] ps := bldA_struct ty_zc59 ty_tk59 ty_pl59 ps
@[go_sem] theorem ty_ia93 (x i : AV) : iaA Tryd.prog 93 x i = iaS 1 x i := iaA_slice ty_tk93 ty_sz96 x i
@[go_sem] theorem ty_sl93 (x : AV) (lo hi : Option AV) : slA Tryd.prog 93 x lo hi none = slS 1 x lo hi := slA_slice ty_tk93 ty_sz96 x lo hi
@[go_sem] theorem ty_ln93 (x : AV) : lnA Tryd.prog 93 x = lnS x := lnA_slice ty_tk93 x
@[go_sem] theorem ty_bs93 (H : List HO) (n : Nat) (ps : List (Nat × AV)) : bsA Tryd.prog H 93 n ps = bsS 1 [.d .nilp] H n ps := bsA_eq (z := 1) (zs := [.d .nilp]) ty_tk93 ty_sz96 ty_zc96 (rfl) H n ps
@[go_sem] theorem ty_mk93 (H : List HO) (l c : AV) : mkA Tryd.prog H 93 l c = mkS 8 (.d .nilp) H l c := mkA_eq (z0 := .d .nilp) ty_tk93 ty_sz96 ty_by96 ty_zc96 H l c
@[go_sem] theorem ty_eq96 (x y : AV) (c : Bool) : eqA Tryd.prog 96 x y c = eqPtr x y := eqA_Ptr ty_tk96 x y c
@[go_sem] theorem ty_fa99_0 (x : AV) : faA Tryd.prog 99 x 0 = faS 0 x := faA_eq (t := 99) (f := 0) (u := 3) (o := 0) (by kernel_rfl) (by kernel_rfl) x
@[go_sem] theorem ty_fi99_0 (x : AV) : fieldA Tryd.prog 99 x 0 = fiS Tryd.prog 3 0 x := fieldA_eq (t := 99) (f := 0) (u := 3) (o := 0) (by kernel_rfl) x
@[go_sem] theorem ty_fa99_1 (x : AV) : faA Tryd.prog 99 x 1 = faS 1 x := faA_eq (t := 99) (f := 1) (u := 3) (o := 1) (by kernel_rfl) (by kernel_rfl) x
@[go_sem] theorem ty_fi99_1 (x : AV) : fieldA Tryd.prog 99 x 1 = fiS Tryd.prog 3 1 x := fieldA_eq (t := 99) (f := 1) (u := 3) (o := 1) (by kernel_rfl) x
@[go_sem] theorem ty_fa99_2 (x : AV) : faA Tryd.prog 99 x 2 = faS 2 x := faA_eq (t := 99) (f := 2) (u := 41) (o := 2) (by kernel_rfl) (by kernel_rfl) x
@[go_sem] theorem ty_fi99_2 (x : AV) : fieldA Tryd.prog 99 x 2 = fiS Tryd.prog 41 2 x := fieldA_eq (t := 99) (f := 2) (u := 41) (o := 2) (by kernel_rfl) x
@[go_sem] theorem ty_bl99 (ps : List (Nat × AV)) : bldA Tryd.prog 99 ps = blS [(0, 1), (1, 1), (2, 2)] [.d (.int .i64 0), .d (.int .i64 0), .d (.int .i64 0), .d (.int .i64 0)] ps := bldA_struct ty_zc99 ty_tk99 ty_pl99 ps
@[go_sem] theorem ty_ia100 (x i : AV) : iaA Tryd.prog 100 x i = iaS 4 x i := iaA_slice ty_tk100 ty_sz99 x i
@[go_sem] theorem ty_sl100 (x : AV) (lo hi : Option AV) : slA Tryd.prog 100 x lo hi none = slS 4 x lo hi := slA_slice ty_tk100 ty_sz99 x lo hi
@[go_sem] theorem ty_ln100 (x : AV) : lnA Tryd.prog 100 x = lnS x := lnA_slice ty_tk100 x
@[go_sem] theorem ty_bs100 (H : List HO) (n : Nat) (ps : List (Nat × AV)) : bsA Tryd.prog H 100 n ps = bsS 4 [.d (.int .i64 0), .d (.int .i64 0), .d (.int .i64 0), .d (.int .i64 0)] H n ps := bsA_eq (z := 4) (zs := [.d (.int .i64 0), .d (.int .i64 0), .d (.int .i64 0), .d (.int .i64 0)]) ty_tk100 ty_sz99 ty_zc99 (rfl) H n ps
@[go_sem] theorem ty_eq104 (x y : AV) (c : Bool) : eqA Tryd.prog 104 x y c = eqPtr x y := eqA_Ptr ty_tk104 x y c
@[go_sem] theorem ty_ia105 (x i : AV) : iaA Tryd.prog 105 x i = iaS 1 x i := iaA_slice ty_tk105 ty_sz5 x i
@[go_sem] theorem ty_sl105 (x : AV) (lo hi : Option AV) : slA Tryd.prog 105 x lo hi none = slS 1 x lo hi := slA_slice ty_tk105 ty_sz5 x lo hi
@[go_sem] theorem ty_ln105 (x : AV) : lnA Tryd.prog 105 x = lnS x := lnA_slice ty_tk105 x
@[go_sem] theorem ty_bs105 (H : List HO) (n : Nat) (ps : List (Nat × AV)) : bsA Tryd.prog H 105 n ps = bsS 1 [.d (.int .u8 0)] H n ps := bsA_eq (z := 1) (zs := [.d (.int .u8 0)]) ty_tk105 ty_sz5 ty_zc5 (rfl) H n ps
@[go_sem] theorem ty_mk105 (H : List HO) (l c : AV) : mkA Tryd.prog H 105 l c = mkS 1 (.d (.int .u8 0)) H l c := mkA_eq (z0 := .d (.int .u8 0)) ty_tk105 ty_sz5 ty_by5 ty_zc5 H l c
@[go_sem] theorem ty_ap105_9 (H : List HO) (s : AV) (x : List UInt8) : apA Tryd.prog H 105 9 s (.d (.str x)) = apB H 1 1 s (x.map byteEl) := apA_str ty_tk105 ty_tk9 ty_sz5 ty_by5 ty_zc5 H s x
@[go_sem] theorem ty_ap105_105 (H : List HO) (s x : AV) : apA Tryd.prog H 105 105 s x = apS 1 1 H s x := apA_slice ty_tk105 ty_tk105 ty_sz5 ty_by5 ty_zc5 (rfl) H s x
@[go_sem] theorem ty_fa107_0 (x : AV) : faA Tryd.prog 107 x 0 = faS 0 x := faA_eq (t := 107) (f := 0) (u := 104) (o := 0) (by kernel_rfl) (by kernel_rfl) x
@[go_sem] theorem ty_fi107_0 (x : AV) : fieldA Tryd.prog 107 x 0 = fiS Tryd.prog 104 0 x := fieldA_eq (t := 107) (f := 0) (u := 104) (o := 0) (by kernel_rfl) x
@[go_sem] theorem ty_fa107_1 (x : AV) : faA Tryd.prog 107 x 1 = faS 1 x := faA_eq (t := 107) (f := 1) (u := 105) (o := 1) (by kernel_rfl) (by kernel_rfl) x
@[go_sem] theorem ty_fi107_1 (x : AV) : fieldA Tryd.prog 107 x 1 = fiS Tryd.prog 105 1 x := fieldA_eq (t := 107) (f := 1) (u := 105) (o := 1) (by kernel_rfl) x
@[go_sem] theorem ty_bl107 (ps : List (Nat × AV)) : bldA Tryd.prog 107 ps = blS [(0, 1), (1, 1)] [.d .nilp, .d (.sl .nil [])] ps := bldA_struct ty_zc107 ty_tk107 ty_pl107 ps
@[go_sem] theorem ty_fa121_0 (x : AV) : faA Tryd.prog 121 x 0 = faS 0 x := faA_eq (t := 121) (f := 0) (u := 3) (o := 0) (by kernel_rfl) (by kernel_rfl) x
@[go_sem] theorem ty_fi121_0 (x : AV) : fieldA Tryd.prog 121 x 0 = fiS Tryd.prog 3 0 x := fieldA_eq (t := 121) (f := 0) (u := 3) (o := 0) (by kernel_rfl) x
@[go_sem] theorem ty_fa121_1 (x : AV) : faA Tryd.prog 121 x 1 = faS 1 x := faA_eq (t := 121) (f := 1) (u := 3) (o := 1) (by kernel_rfl) (by kernel_rfl) x
@[go_sem] theorem ty_fi121_1 (x : AV) : fieldA Tryd.prog 121 x 1 = fiS Tryd.prog 3 1 x := fieldA_eq (t := 121) (f := 1) (u := 3) (o := 1) (by kernel_rfl) x
@[go_sem] theorem ty_bl121 (ps : List (Nat × AV)) : bldA Tryd.prog 121 ps = blS [(0, 1), (1, 1)] [.d (.int .i64 0), .d (.int .i64 0)] ps := bldA_struct ty_zc121 ty_tk121 ty_pl121 ps
@[go_sem] theorem ty_fa132_0 (x : AV) : faA Tryd.prog 132 x 0 = faS 0 x := faA_eq (t := 132) (f := 0) (u := 3) (o := 0) (by kernel_rfl) (by kernel_rfl) x
@[go_sem] theorem ty_fi132_0 (x : AV) : fieldA Tryd.prog 132 x 0 = fiS Tryd.prog 3 0 x := fieldA_eq (t := 132) (f := 0) (u := 3) (o := 0) (by kernel_rfl) x
@[go_sem] theorem ty_fa132_1 (x : AV) : faA Tryd.prog 132 x 1 = faS 1 x := faA_eq (t := 132) (f := 1) (u := 3) (o := 1) (by kernel_rfl) (by kernel_rfl) x
@[go_sem] theorem ty_fi132_1 (x : AV) : fieldA Tryd.prog 132 x 1 = fiS Tryd.prog 3 1 x := fieldA_eq (t := 132) (f := 1) (u := 3) (o := 1) (by kernel_rfl) x
@[go_sem] theorem ty_fa132_2 (x : AV) : faA Tryd.prog 132 x 2 = faS 2 x := faA_eq (t := 132) (f := 2) (u := 3) (o := 2) (by kernel_rfl) (by kernel_rfl) x
@[go_sem] theorem ty_fi132_2 (x : AV) : fieldA Tryd.prog 132 x 2 = fiS Tryd.prog 3 2 x := fieldA_eq (t := 132) (f := 2) (u := 3) (o := 2) (by kernel_rfl) x
@[go_sem] theorem ty_fa132_3 (x : AV) : faA Tryd.prog 132 x 3 = faS 3 x := faA_eq (t := 132) (f := 3) (u := 3) (o := 3) (by kernel_rfl) (by kernel_rfl) x
@[go_sem] theorem ty_fi132_3 (x : AV) : fieldA Tryd.prog 132 x 3 = fiS Tryd.prog 3 3 x := fieldA_eq (t := 132) (f := 3) (u := 3) (o := 3) (by kernel_rfl) x
@[go_sem] theorem ty_bl132 (ps : List (Nat × AV)) : bldA Tryd.prog 132 ps = blS [(0, 1), (1, 1), (2, 1), (3, 1)] [.d (.int .i64 0), .d (.int .i64 0), .d (.int .i64 0), .d (.int .i64 0)] ps := bldA_struct ty_zc132 ty_tk132 ty_pl132 ps
@[go_sem] theorem ty_ia182 (x i : AV) : iaA Tryd.prog 182 x i = iaAr 256 1 x i := iaA_array ty_tk182 ty_sz153 x i
@[go_sem] theorem ty_ix182 (x i : AV) : ixA Tryd.prog 182 x i = ixAr Tryd.prog 153 256 1 x i := ixA_array ty_tk182 ty_sz153 x i
@[go_sem] theorem ty_ia187 (x i : AV) : iaA Tryd.prog 187 x i = iaAr 256 1 x i := iaA_array ty_tk187 ty_sz5 x i
@[go_sem] theorem ty_ix187 (x i : AV) : ixA Tryd.prog 187 x i = ixAr Tryd.prog 5 256 1 x i := ixA_array ty_tk187 ty_sz5 x i
@[go_sem] theorem ty_fa189_0 (x : AV) : faA Tryd.prog 189 x 0 = faS 0 x := faA_eq (t := 189) (f := 0) (u := 5) (o := 0) (by kernel_rfl) (by kernel_rfl) x
@[go_sem] theorem ty_fi189_0 (x : AV) : fieldA Tryd.prog 189 x 0 = fiS Tryd.prog 5 0 x := fieldA_eq (t := 189) (f := 0) (u := 5) (o := 0) (by kernel_rfl) x
@[go_sem] theorem ty_fa189_1 (x : AV) : faA Tryd.prog 189 x 1 = faS 1 x := faA_eq (t := 189) (f := 1) (u := 5) (o := 1) (by kernel_rfl) (by kernel_rfl) x
@[go_sem] theorem ty_fi189_1 (x : AV) : fieldA Tryd.prog 189 x 1 = fiS Tryd.prog 5 1 x := fieldA_eq (t := 189) (f := 1) (u := 5) (o := 1) (by kernel_rfl) x
@[go_sem] theorem ty_bl189 (ps : List (Nat × AV)) : bldA Tryd.prog 189 ps = blS [(0, 1), (1, 1)] [.d (.int .u8 0), .d (.int .u8 0)] ps := bldA_struct ty_zc189 ty_tk189 ty_pl189 ps
@[go_sem] theorem ty_ia190 (x i : AV) : iaA Tryd.prog 190 x i = iaAr 16 2 x i := iaA_array ty_tk190 ty_sz189 x i
@[go_sem] theorem ty_ix190 (x i : AV) : ixA Tryd.prog 190 x i = ixAr Tryd.prog 189 16 2 x i := ixA_array ty_tk190 ty_sz189 x i
@[go_sem] theorem ty_bd9 : bldE Tryd.prog 9 = none := by kernel_rfl
@[go_sem] theorem ty_bd25 : bldE Tryd.prog 25 = none := by kernel_rfl
@[go_sem] theorem ty_bd36 : bldE Tryd.prog 36 = none := by kernel_rfl
@[go_sem] theorem ty_bd38 : bldE Tryd.prog 38 = none := by kernel_rfl
@[go_sem] theorem ty_bd44 : bldE Tryd.prog 44 = none := by kernel_rfl
@[go_sem] theorem ty_bd57 : bldE Tryd.prog 57 = none := by kernel_rfl
@[go_sem] theorem ty_bd59 : bldE Tryd.prog 59 = none := by kernel_rfl
@[go_sem] theorem ty_bd99 : bldE Tryd.prog 99 = none := by kernel_rfl
@[go_sem] theorem ty_bd107 : bldE Tryd.prog 107 = some 5 := by kernel_rfl
@[go_sem] theorem ty_bd121 : bldE Tryd.prog 121 = none := by kernel_rfl
@[go_sem] theorem ty_bd132 : bldE Tryd.prog 132 = none := by kernel_rfl
@[go_sem] theorem ty_bd182 : bldE Tryd.prog 182 = none := by kernel_rfl
@[go_sem] theorem ty_bd189 : bldE Tryd.prog 189 = none := by kernel_rfl
@[go_sem] theorem ty_cv3_5 (H : List HO) (k : IntKind) (n : Int) : cvX Tryd.prog H 3 5 (.d (.int k n)) = some (.d (.int .u8 (IntKind.wrap .u8 n)), H) := cvX_int ty_tk3 ty_tk5 H k n
@[go_sem] theorem ty_cw3_5 (H : List HO) (k : IntKind) (n : Int) (kp : AV → Prop) (kh : AV → List HO → Prop) : cvT Tryd.prog H 3 5 (.d (.int k n)) kp kh = kp (.d (.int .u8 (IntKind.wrap .u8 n))) := cvT_int ty_tk3 ty_tk5 H k n kp kh
@[go_sem] theorem ty_cv3_34 (H : List HO) (k : IntKind) (n : Int) : cvX Tryd.prog H 3 34 (.d (.int k n)) = some (.d (.int .u64 (IntKind.wrap .u64 n)), H) := cvX_int ty_tk3 ty_tk34 H k n
@[go_sem] theorem ty_cw3_34 (H : List HO) (k : IntKind) (n : Int) (kp : AV → Prop) (kh : AV → List HO → Prop) : cvT Tryd.prog H 3 34 (.d (.int k n)) kp kh = kp (.d (.int .u64 (IntKind.wrap .u64 n))) := cvT_int ty_tk3 ty_tk34 H k n kp kh
@[go_sem] theorem ty_cv5_3 (H : List HO) (k : IntKind) (n : Int) : cvX Tryd.prog H 5 3 (.d (.int k n)) = some (.d (.int .i64 (IntKind.wrap .i64 n)), H) := cvX_int ty_tk5 ty_tk3 H k n
@[go_sem] theorem ty_cw5_3 (H : List HO) (k : IntKind) (n : Int) (kp : AV → Prop) (kh : AV → List HO → Prop) : cvT Tryd.prog H 5 3 (.d (.int k n)) kp kh = kp (.d (.int .i64 (IntKind.wrap .i64 n))) := cvT_int ty_tk5 ty_tk3 H k n kp kh
@[go_sem] theorem ty_cv5_21 (H : List HO) (k : IntKind) (n : Int) : cvX Tryd.prog H 5 21 (.d (.int k n)) = some (.d (.int .i32 (IntKind.wrap .i32 n)), H) := cvX_int ty_tk5 ty_tk21 H k n
@[go_sem] theorem ty_cw5_21 (H : List HO) (k : IntKind) (n : Int) (kp : AV → Prop) (kh : AV → List HO → Prop) : cvT Tryd.prog H 5 21 (.d (.int k n)) kp kh = kp (.d (.int .i32 (IntKind.wrap .i32 n))) := cvT_int ty_tk5 ty_tk21 H k n kp kh
@[go_sem] theorem ty_cv5_153 (H : List HO) (k : IntKind) (n : Int) : cvX Tryd.prog H 5 153 (.d (.int k n)) = some (.d (.int .u16 (IntKind.wrap .u16 n)), H) := cvX_int ty_tk5 ty_tk153 H k n
@[go_sem] theorem ty_cw5_153 (H : List HO) (k : IntKind) (n : Int) (kp : AV → Prop) (kh : AV → List HO → Prop) : cvT Tryd.prog H 5 153 (.d (.int k n)) kp kh = kp (.d (.int .u16 (IntKind.wrap .u16 n))) := cvT_int ty_tk5 ty_tk153 H k n kp kh
@[go_sem] theorem ty_cv5_159 (H : List HO) (k : IntKind) (n : Int) : cvX Tryd.prog H 5 159 (.d (.int k n)) = some (.d (.int .u64 (IntKind.wrap .u64 n)), H) := cvX_int ty_tk5 ty_tk159 H k n
@[go_sem] theorem ty_cw5_159 (H : List HO) (k : IntKind) (n : Int) (kp : AV → Prop) (kh : AV → List HO → Prop) : cvT Tryd.prog H 5 159 (.d (.int k n)) kp kh = kp (.d (.int .u64 (IntKind.wrap .u64 n))) := cvT_int ty_tk5 ty_tk159 H k n kp kh
@[go_sem] theorem ty_cv9_105 (H : List HO) (x : List UInt8) : cvX Tryd.prog H 9 105 (.d (.str x)) = some (.d (.sl .any (x.map byteEl)), H) := cvX_sb ty_tk9 ty_tk105 ty_tk5 H x
@[go_sem] theorem ty_cw9_105 (H : List HO) (x : List UInt8) (kp : AV → Prop) (kh : AV → List HO → Prop) : cvT Tryd.prog H 9 105 (.d (.str x)) kp kh = kh (.d (.sl .any (x.map byteEl))) H := cvT_sb ty_tk9 ty_tk105 ty_tk5 H x kp kh
@[go_sem] theorem ty_cv21_3 (H : List HO) (k : IntKind) (n : Int) : cvX Tryd.prog H 21 3 (.d (.int k n)) = some (.d (.int .i64 (IntKind.wrap .i64 n)), H) := cvX_int ty_tk21 ty_tk3 H k n
@[go_sem] theorem ty_cw21_3 (H : List HO) (k : IntKind) (n : Int) (kp : AV → Prop) (kh : AV → List HO → Prop) : cvT Tryd.prog H 21 3 (.d (.int k n)) kp kh = kp (.d (.int .i64 (IntKind.wrap .i64 n))) := cvT_int ty_tk21 ty_tk3 H k n kp kh
@[go_sem] theorem ty_cv21_5 (H : List HO) (k : IntKind) (n : Int) : cvX Tryd.prog H 21 5 (.d (.int k n)) = some (.d (.int .u8 (IntKind.wrap .u8 n)), H) := cvX_int ty_tk21 ty_tk5 H k n
@[go_sem] theorem ty_cw21_5 (H : List HO) (k : IntKind) (n : Int) (kp : AV → Prop) (kh : AV → List HO → Prop) : cvT Tryd.prog H 21 5 (.d (.int k n)) kp kh = kp (.d (.int .u8 (IntKind.wrap .u8 n))) := cvT_int ty_tk21 ty_tk5 H k n kp kh
@[go_sem] theorem ty_cv21_33 (H : List HO) (k : IntKind) (n : Int) : cvX Tryd.prog H 21 33 (.d (.int k n)) = some (.d (.int .u32 (IntKind.wrap .u32 n)), H) := cvX_int ty_tk21 ty_tk33 H k n
@[go_sem] theorem ty_cw21_33 (H : List HO) (k : IntKind) (n : Int) (kp : AV → Prop) (kh : AV → List HO → Prop) : cvT Tryd.prog H 21 33 (.d (.int k n)) kp kh = kp (.d (.int .u32 (IntKind.wrap .u32 n))) := cvT_int ty_tk21 ty_tk33 H k n kp kh
@[go_sem] theorem ty_cv33_3 (H : List HO) (k : IntKind) (n : Int) : cvX Tryd.prog H 33 3 (.d (.int k n)) = some (.d (.int .i64 (IntKind.wrap .i64 n)), H) := cvX_int ty_tk33 ty_tk3 H k n
@[go_sem] theorem ty_cw33_3 (H : List HO) (k : IntKind) (n : Int) (kp : AV → Prop) (kh : AV → List HO → Prop) : cvT Tryd.prog H 33 3 (.d (.int k n)) kp kh = kp (.d (.int .i64 (IntKind.wrap .i64 n))) := cvT_int ty_tk33 ty_tk3 H k n kp kh
@[go_sem] theorem ty_cv33_34 (H : List HO) (k : IntKind) (n : Int) : cvX Tryd.prog H 33 34 (.d (.int k n)) = some (.d (.int .u64 (IntKind.wrap .u64 n)), H) := cvX_int ty_tk33 ty_tk34 H k n
@[go_sem] theorem ty_cw33_34 (H : List HO) (k : IntKind) (n : Int) (kp : AV → Prop) (kh : AV → List HO → Prop) : cvT Tryd.prog H 33 34 (.d (.int k n)) kp kh = kp (.d (.int .u64 (IntKind.wrap .u64 n))) := cvT_int ty_tk33 ty_tk34 H k n kp kh
@[go_sem] theorem ty_cv33_159 (H : List HO) (k : IntKind) (n : Int) : cvX Tryd.prog H 33 159 (.d (.int k n)) = some (.d (.int .u64 (IntKind.wrap .u64 n)), H) := cvX_int ty_tk33 ty_tk159 H k n
@[go_sem] theorem ty_cw33_159 (H : List HO) (k : IntKind) (n : Int) (kp : AV → Prop) (kh : AV → List HO → Prop) : cvT Tryd.prog H 33 159 (.d (.int k n)) kp kh = kp (.d (.int .u64 (IntKind.wrap .u64 n))) := cvT_int ty_tk33 ty_tk159 H k n kp kh
@[go_sem] theorem ty_cv34_3 (H : List HO) (k : IntKind) (n : Int) : cvX Tryd.prog H 34 3 (.d (.int k n)) = some (.d (.int .i64 (IntKind.wrap .i64 n)), H) := cvX_int ty_tk34 ty_tk3 H k n
@[go_sem] theorem ty_cw34_3 (H : List HO) (k : IntKind) (n : Int) (kp : AV → Prop) (kh : AV → List HO → Prop) : cvT Tryd.prog H 34 3 (.d (.int k n)) kp kh = kp (.d (.int .i64 (IntKind.wrap .i64 n))) := cvT_int ty_tk34 ty_tk3 H k n kp kh
@[go_sem] theorem ty_cv34_33 (H : List HO) (k : IntKind) (n : Int) : cvX Tryd.prog H 34 33 (.d (.int k n)) = some (.d (.int .u32 (IntKind.wrap .u32 n)), H) := cvX_int ty_tk34 ty_tk33 H k n
@[go_sem] theorem ty_cw34_33 (H : List HO) (k : IntKind) (n : Int) (kp : AV → Prop) (kh : AV → List HO → Prop) : cvT Tryd.prog H 34 33 (.d (.int k n)) kp kh = kp (.d (.int .u32 (IntKind.wrap .u32 n))) := cvT_int ty_tk34 ty_tk33 H k n kp kh
@[go_sem] theorem ty_cv105_9 (H : List HO) (x : AV) : cvX Tryd.prog H 105 9 x = cvBy H x := cvX_bytes ty_tk105 ty_tk9 ty_tk5 H x
@[go_sem] theorem ty_cw105_9 (H : List HO) (x : AV) (kp : AV → Prop) (kh : AV → List HO → Prop) : cvT Tryd.prog H 105 9 x kp kh = cvTB H x kp kh := cvT_bytes ty_tk105 ty_tk9 ty_tk5 H x kp kh
@[go_sem] theorem ty_cv153_3 (H : List HO) (k : IntKind) (n : Int) : cvX Tryd.prog H 153 3 (.d (.int k n)) = some (.d (.int .i64 (IntKind.wrap .i64 n)), H) := cvX_int ty_tk153 ty_tk3 H k n
@[go_sem] theorem ty_cw153_3 (H : List HO) (k : IntKind) (n : Int) (kp : AV → Prop) (kh : AV → List HO → Prop) : cvT Tryd.prog H 153 3 (.d (.int k n)) kp kh = kp (.d (.int .i64 (IntKind.wrap .i64 n))) := cvT_int ty_tk153 ty_tk3 H k n kp kh
@[go_sem] theorem ty_cv153_5 (H : List HO) (k : IntKind) (n : Int) : cvX Tryd.prog H 153 5 (.d (.int k n)) = some (.d (.int .u8 (IntKind.wrap .u8 n)), H) := cvX_int ty_tk153 ty_tk5 H k n
@[go_sem] theorem ty_cw153_5 (H : List HO) (k : IntKind) (n : Int) (kp : AV → Prop) (kh : AV → List HO → Prop) : cvT Tryd.prog H 153 5 (.d (.int k n)) kp kh = kp (.d (.int .u8 (IntKind.wrap .u8 n))) := cvT_int ty_tk153 ty_tk5 H k n kp kh
@[go_sem] theorem ty_cv159_3 (H : List HO) (k : IntKind) (n : Int) : cvX Tryd.prog H 159 3 (.d (.int k n)) = some (.d (.int .i64 (IntKind.wrap .i64 n)), H) := cvX_int ty_tk159 ty_tk3 H k n
@[go_sem] theorem ty_cw159_3 (H : List HO) (k : IntKind) (n : Int) (kp : AV → Prop) (kh : AV → List HO → Prop) : cvT Tryd.prog H 159 3 (.d (.int k n)) kp kh = kp (.d (.int .i64 (IntKind.wrap .i64 n))) := cvT_int ty_tk159 ty_tk3 H k n kp kh
@[go_sem] theorem ty_cv159_33 (H : List HO) (k : IntKind) (n : Int) : cvX Tryd.prog H 159 33 (.d (.int k n)) = some (.d (.int .u32 (IntKind.wrap .u32 n)), H) := cvX_int ty_tk159 ty_tk33 H k n
@[go_sem] theorem ty_cw159_33 (H : List HO) (k : IntKind) (n : Int) (kp : AV → Prop) (kh : AV → List HO → Prop) : cvT Tryd.prog H 159 33 (.d (.int k n)) kp kh = kp (.d (.int .u32 (IntKind.wrap .u32 n))) := cvT_int ty_tk159 ty_tk33 H k n kp kh
theorem ty_ek38 : eqOk Tryd.prog 38 = some [.int .i64, .int .i64, .str] := by kernel_rfl
@[go_sem] theorem ty_eq38 (x y : AV) (c : Bool) : eqA Tryd.prog 38 x y c = eqSt [.int .i64, .int .i64, .str] x y := eqA_struct ty_tk38 ty_ek38 x y c
theorem ty_ek41 : eqOk Tryd.prog 41 = some [.int .i64, .int .i64] := by kernel_rfl
@[go_sem] theorem ty_eq41 (x y : AV) (c : Bool) : eqA Tryd.prog 41 x y c = eqSt [.int .i64, .int .i64] x y := eqA_struct ty_tk41 ty_ek41 x y c
theorem ty_ek57 : eqOk Tryd.prog 57 = some [.str, .bool, .bool, .bool, .bool, .bool, .int .i64, .int .i64, .int .i64] := by kernel_rfl
@[go_sem] theorem ty_eq57 (x y : AV) (c : Bool) : eqA Tryd.prog 57 x y c = eqSt [.str, .bool, .bool, .bool, .bool, .bool, .int .i64, .int .i64, .int .i64] x y := eqA_struct ty_tk57 ty_ek57 x y c
theorem ty_ek121 : eqOk Tryd.prog 121 = some [.int .i64, .int .i64] := by kernel_rfl
@[go_sem] theorem ty_eq121 (x y : AV) (c : Bool) : eqA Tryd.prog 121 x y c = eqSt [.int .i64, .int .i64] x y := eqA_struct ty_tk121 ty_ek121 x y c
end Go.Proofs.YtjmldlknegbimaaDoor.Sx
