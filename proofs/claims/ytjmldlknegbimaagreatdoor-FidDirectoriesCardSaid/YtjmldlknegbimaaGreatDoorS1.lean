/- A contract of the kit laid at this program, in plain words (printed by the kit's tool lay-plain): laysDecode. -/
import Derived.Shelf.Unicode.DecodeAny
import Derived.Ground.NamesProg
import Derived.Test.YtjmldlknegbimaaGreatDoorProg
namespace Go.Proofs
open Go.Shelf
def Tryz.laysDecode_ren : Go.Shelf.Ren := ⟨fun | 197 => 106 | 260 => 117 | n => n, fun | 9 => 9 | 21 => 21 | 3 => 3 | 4 => 4 | 5 => 5 | 105 => 133 | 119 => 141 | 0 => 0 | 46 => 95 | 139 => 144 | 138 => 143 | n => n, fun | 3 => 1 | 4 => 2 | n => n⟩
theorem Tryz.laysDecode : Go.Proofs.Lays.n197 Tryz.prog Tryz.laysDecode_ren := {
  mixed := by kernel_rfl
  f197 := Tryz.func106.trans (congrArg some (by kernel_rfl))
  f260 := Tryz.func117.trans (congrArg some (by kernel_rfl))
  t0 := Tryz.underlying0
  a0 := Tryz.isAgg0
  z0 := Tryz.sizeOf0
  v0 := Tryz.zeroValue0
  t3 := Tryz.underlying3
  a3 := Tryz.isAgg3
  z3 := Tryz.sizeOf3
  v3 := Tryz.zeroValue3
  t4 := Tryz.underlying4
  a4 := Tryz.isAgg4
  z4 := Tryz.sizeOf4
  v4 := Tryz.zeroValue4
  t5 := Tryz.underlying5
  a5 := Tryz.isAgg5
  z5 := Tryz.sizeOf5
  v5 := Tryz.zeroValue5
  t9 := Tryz.underlying9
  a9 := Tryz.isAgg9
  z9 := Tryz.sizeOf9
  v9 := Tryz.zeroValue9
  t21 := Tryz.underlying21
  a21 := Tryz.isAgg21
  z21 := Tryz.sizeOf21
  v21 := Tryz.zeroValue21
  t46 := Tryz.underlying95
  a46 := Tryz.isAgg95
  z46 := Tryz.sizeOf95
  v46 := Tryz.zeroValue95
  t105 := Tryz.underlying133
  a105 := Tryz.isAgg133
  z105 := Tryz.sizeOf133
  v105 := Tryz.zeroValue133
  t119 := Tryz.underlying141
  a119 := Tryz.isAgg141
  z119 := Tryz.sizeOf141
  t138 := Tryz.underlying143
  a138 := Tryz.isAgg143
  z138 := Tryz.sizeOf143
  v138 := Tryz.zeroValue143
  t139 := Tryz.underlying144
  a139 := Tryz.isAgg144
  z139 := Tryz.sizeOf144
  v139 := Tryz.zeroValue144
  g3 := by kernel_rfl
  g4 := by kernel_rfl }
end Go.Proofs
