/- Runs at given data over this program. -/
import Derived.Test.YtjmldlknegbimaaGreatDoorA19
import Derived.Test.YtjmldlknegbimaaGreatDoorT0
set_option linter.unusedVariables false
set_option linter.unusedSimpArgs false
namespace Go.Proofs.YtjmldlknegbimaaGreatDoor.Sx
open Go Go.RowKit
theorem PF.global {P : Program} {G G' : Gl} {f : FuncId} {ds : List DV} {r : DV} (h : PF P G f ds r) (hg : ∀ g cs, G g = some cs → G' g = some cs) : PF P G' f ds r :=
  fun H => ⟨(h H).1, fun X K ι w vs h1 h2 => (h H).2 X K ι w vs h1 (fun g cs e => h2 g cs (hg g cs e))⟩
theorem all_ok : allOk Tryz.prog = true := by kernel_rfl
def G0 : Gl := fun _ => none
def ctr0 : Cf := fun _ _ => none
theorem run0_ok {f : FuncId} {ds : List DV} {r : DV} (m d : Nat) (h : (exD Tryz.prog G0 ctr0 m d).1 f ds = some r) {G : Gl} : PF Tryz.prog G f ds r :=
  ((exD_sound mo all_ok (ctr := ctr0) (fun f ds r h => by simp [ctr0] at h) m d).1 f ds r h).global (fun g cs e => by simp [G0] at e)
end Go.Proofs.YtjmldlknegbimaaGreatDoor.Sx
