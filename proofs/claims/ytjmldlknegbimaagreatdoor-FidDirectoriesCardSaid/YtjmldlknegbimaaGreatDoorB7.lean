/- strings.Repeat by the kit's contract; attributes by the program. -/
import Derived.Shelf.Strings.Repeat
import Derived.Ground.NamesProg
import Derived.Test.YtjmldlknegbimaaGreatDoorS0
import Derived.Test.YtjmldlknegbimaaGreatDoorM4
import Derived.Test.YtjmldlknegbimaaGreatDoorB6
import Derived.Lib.Agree
set_option linter.unusedVariables false
set_option linter.unusedSimpArgs false
namespace Go.Proofs
open Go.Shelf Go.RowKit
theorem Tryz.extraRepeat : Builder.Extra Tryz.prog Tryz.laysRepeat_ren where
  sizeBuilder := by kernel_rfl
  liesBuilder := by kernel_rfl
  t5 := Tryz.laysRepeat.t5
  a5 := Tryz.laysRepeat.a5
  z5 := Tryz.laysRepeat.z5
  v5 := Tryz.laysRepeat.v5
  infoByte := by kernel_rfl
  cellsByte := by kernel_rfl
  sizeByte := by kernel_rfl
  neB5 := by decide
end Go.Proofs
namespace Go.Proofs.YtjmldlknegbimaaGreatDoor.Sx
open Go Go.RowKit
variable {G : Gl}
theorem p_strRepeat (s : List UInt8) (c : Nat) (hc : c ≤ 9223372036854775807) (hl : s.length * c ≤ 140737488355328) : PF Tryz.prog G 31 [.str s, .int .i64 c] (.str (Lib.repeatL s c)) := by
  refine PF.of_below (vs := [.string ⟨s.toArray⟩, .int .i64 c]) (v := .string ⟨(Lib.repeatL s c).toArray⟩) (by kernel_rfl) rfl (fun K => .str _) (fun w => ?_)
  have := Any.strings_Repeat Tryz.laysRepeat Tryz.extraRepeat ⟨s.toArray⟩ c w hc (by simpa [ByteArray.size] using hl)
  exact this
theorem repeatL_one (x : UInt8) (c : Nat) : Lib.repeatL [x] c = List.replicate c x := by
  induction c with
  | zero => rfl
  | succ c ih => rw [List.replicate_succ, ← ih]; rfl
end Go.Proofs.YtjmldlknegbimaaGreatDoor.Sx
