/- The kit's contract of utf8.DecodeRuneInString laid at this program, in plain words (printed by the kit's tool lay-plain). -/
import Derived.Shelf.Unicode.DecodeAny
import Derived.Ground.NamesProg
import Derived.Test.YtjmldlknegbimaaDoorProg
namespace Go.Proofs
open Go.Shelf
def Tryd.laysDecode_ren : Go.Shelf.Ren := ⟨fun | 197 => 154 | 260 => 163 | n => n, fun | 9 => 9 | 21 => 21 | 3 => 3 | 4 => 4 | 5 => 5 | 105 => 175 | 119 => 187 | 0 => 0 | 46 => 34 | 139 => 190 | 138 => 189 | n => n, fun | 3 => 1 | 4 => 2 | n => n⟩
theorem Tryd.laysDecode : Go.Proofs.Lays.n197 Tryd.prog Tryd.laysDecode_ren := {
  mixed := by kernel_rfl
  f197 := Tryd.func154.trans (congrArg some (by kernel_rfl))
  f260 := Tryd.func163.trans (congrArg some (by kernel_rfl))
  t0 := Tryd.underlying0
  a0 := Tryd.isAgg0
  z0 := Tryd.sizeOf0
  v0 := Tryd.zeroValue0
  t3 := Tryd.underlying3
  a3 := Tryd.isAgg3
  z3 := Tryd.sizeOf3
  v3 := Tryd.zeroValue3
  t4 := Tryd.underlying4
  a4 := Tryd.isAgg4
  z4 := Tryd.sizeOf4
  v4 := Tryd.zeroValue4
  t5 := Tryd.underlying5
  a5 := Tryd.isAgg5
  z5 := Tryd.sizeOf5
  v5 := Tryd.zeroValue5
  t9 := Tryd.underlying9
  a9 := Tryd.isAgg9
  z9 := Tryd.sizeOf9
  v9 := Tryd.zeroValue9
  t21 := Tryd.underlying21
  a21 := Tryd.isAgg21
  z21 := Tryd.sizeOf21
  v21 := Tryd.zeroValue21
  t46 := Tryd.underlying34
  a46 := Tryd.isAgg34
  z46 := Tryd.sizeOf34
  v46 := Tryd.zeroValue34
  t105 := Tryd.underlying175
  a105 := Tryd.isAgg175
  z105 := Tryd.sizeOf175
  v105 := Tryd.zeroValue175
  t119 := Tryd.underlying187
  a119 := Tryd.isAgg187
  z119 := Tryd.sizeOf187
  t138 := Tryd.underlying189
  a138 := Tryd.isAgg189
  z138 := Tryd.sizeOf189
  v138 := Tryd.zeroValue189
  t139 := Tryd.underlying190
  a139 := Tryd.isAgg190
  z139 := Tryd.sizeOf190
  v139 := Tryd.zeroValue190
  g3 := by kernel_rfl
  g4 := by kernel_rfl }
end Go.Proofs
