/- strings.Builder: the contracts of its methods at abstract values. -/
import Derived.Test.YtjmldlknegbimaaGreatDoorM5
import Derived.Test.YtjmldlknegbimaaGreatDoorS2
import Derived.Test.YtjmldlknegbimaaGreatDoorT0
set_option linter.unusedVariables false
set_option linter.unusedSimpArgs false
namespace Go.Proofs.YtjmldlknegbimaaGreatDoor.Sx
open Go Go.RowKit
variable {G : Gl} {H : List HO} {id : Nat} {l : List UInt8}
theorem det_str (s : List UInt8) (K : Mem) (vs : List Value) (hl : vs.length = [DV.str s].length) (h : ∀ i, i < [DV.str s].length → Rel K ([DV.str s].getD i .nilp) (vs.getD i undef)) : vs = [.string ⟨s.toArray⟩] := by
  obtain ⟨v, rfl⟩ := List.length_eq_one_iff.1 hl
  have := h 0 (by simp)
  simp only [List.getD_cons_zero] at this
  cases this; rfl
theorem det_int (k : IntKind) (n : Int) (K : Mem) (vs : List Value) (hl : vs.length = [DV.int k n].length) (h : ∀ i, i < [DV.int k n].length → Rel K ([DV.int k n].getD i .nilp) (vs.getD i undef)) : vs = [.int k n] := by
  obtain ⟨v, rfl⟩ := List.length_eq_one_iff.1 hl
  have := h 0 (by simp)
  simp only [List.getD_cons_zero] at this
  cases this; rfl
theorem det_nil (K : Mem) (vs : List Value) (hl : vs.length = ([] : List DV).length) (h : ∀ i, i < ([] : List DV).length → Rel K (([] : List DV).getD i .nilp) (vs.getD i undef)) : vs = [] := List.length_eq_zero_iff.1 hl
theorem rel_two (K : Mem) (n : Int) : Rel K (.tup [.int .i64 n, .nili]) (.tuple #[.int .i64 n, .nilIface]) := by
  refine .tup _ _ rfl fun i hi => ?_
  match i, hi with
  | 0, _ => exact .int _ _
  | 1, _ => exact .nili
theorem f_bstr (s : List UInt8) (hid : H[id]? = some (.bld 73 5 l)) (hl : l.length + s.length ≤ 140737488355328) :
    Fn Tryz.prog G 48 [.ptr id 0, .d (.str s)] H (.d (.tup [.int .i64 s.length, .nili])) (H.set id (.bld 73 5 (l ++ s))) :=
  Fn.of_bd (args := [.str s]) (avs := [.string ⟨s.toArray⟩]) (by kernel_rfl) hid (det_str s) (fun h hc => h (List.append_eq_nil_iff.1 hc).1) (fun K => rel_two K _) fun w B b v hb hB => bWriteString Tryz.lays166 Tryz.bextra s hb hl hB
theorem f_brune {s : List UInt8} {r : Int} (hr : RuneRow r s) (hid : H[id]? = some (.bld 73 5 l)) (hl : l.length + 4 ≤ 140737488355328) :
    Fn Tryz.prog G 74 [.ptr id 0, .d (.int .i32 r)] H (.d (.tup [.int .i64 s.length, .nili])) (H.set id (.bld 73 5 (l ++ s))) :=
  Fn.of_bd (args := [.int .i32 r]) (avs := [.int .i32 r]) (by kernel_rfl) hid (det_int .i32 r) (fun h hc => h (List.append_eq_nil_iff.1 hc).1) (fun K => rel_two K _) fun w B b v hb hB => bWriteRune Tryz.lays168 Tryz.bextra hr hb hl hB
theorem f_bstring (hid : H[id]? = some (.bld 73 5 l)) : Fn Tryz.prog G 49 [.ptr id 0] H (.d (.str l)) H := by
  have := Fn.of_bd (P := Tryz.prog) (G := G) (f := 49) (l' := l) (args := []) (avs := []) (r := .str l) (rv := .string ⟨l.toArray⟩) (by kernel_rfl) hid det_nil (fun h => h) (fun K => .str l) fun w B b v hb hB => bString Tryz.lays169 Tryz.bextra hb
  rwa [set_same hid] at this
theorem f_blen (hid : H[id]? = some (.bld 73 5 l)) : Fn Tryz.prog G 47 [.ptr id 0] H (.d (.int .i64 l.length)) H := by
  have := Fn.of_bd (P := Tryz.prog) (G := G) (f := 47) (l' := l) (args := []) (avs := []) (r := .int .i64 l.length) (rv := .int .i64 l.length) (by kernel_rfl) hid det_nil (fun h => h) (fun K => .int _ _) fun w B b v hb hB =>
    (bLen Tryz.lays170 hb).mono fun en w' ⟨h1, h2⟩ => ⟨h1, by subst h2; exact ⟨v, hb, .inl rfl, ⟨rfl, rfl, rfl, Nat.le_refl _, fun _ _ _ _ => rfl⟩⟩⟩
  rwa [set_same hid] at this
end Go.Proofs.YtjmldlknegbimaaGreatDoor.Sx
