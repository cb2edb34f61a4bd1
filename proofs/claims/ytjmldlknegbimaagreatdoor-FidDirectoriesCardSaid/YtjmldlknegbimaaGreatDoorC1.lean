/- The checks that stand first in the laws of chapter 42, carried out. -/
import Derived.Test.YtjmldlknegbimaaGreatDoorX0
import Derived.Test.YtjmldlknegbimaaGreatDoorB2
set_option linter.unusedVariables false
set_option linter.unusedSimpArgs false
namespace Go.Proofs.YtjmldlknegbimaaGreatDoor.Sx
open Go Go.RowKit
/-- What is known of functions that a run need not enter. -/
def ctr1 : Cf := fun f ds => match ds with
  | [.str s] => if f = 95 ∧ s.length < 2 ^ 40 then some (.int .u16 (crc16 s).toNat) else none
  | _ => none
theorem ctr1_ok {G : Gl} : ∀ f ds r, ctr1 f ds = some r → PF Tryz.prog G f ds r := by
  intro f ds r h
  unfold ctr1 at h
  split at h
  · rename_i s
    split at h
    · rename_i hc
      obtain ⟨rfl, hl⟩ := hc
      simp only [Option.some.injEq] at h; subst h
      exact p_crc16 s hl
    · contradiction
  · contradiction
theorem run_ok {f : FuncId} {ds : List DV} {r : DV} (m d : Nat) (h : (exD Tryz.prog G0 ctr1 m d).1 f ds = some r) {G : Gl} : PF Tryz.prog G f ds r :=
  ((exD_sound mo all_ok ctr1_ok m d).1 f ds r h).global (fun g cs e => by simp [G0] at e)
end Go.Proofs.YtjmldlknegbimaaGreatDoor.Sx
