/- The checks that stand first in the laws of chapter 35, carried out. -/
import Derived.Test.YtjmldlknegbimaaGreatDoorC1
import Derived.Test.YtjmldlknegbimaaGreatDoorB30
set_option linter.unusedVariables false
set_option linter.unusedSimpArgs false
namespace Go.Proofs.YtjmldlknegbimaaGreatDoor.Sx
open Go Go.RowKit
def intsOf : List (List DV) → Option (List Int)
  | [] => some []
  | [.int .i64 n] :: r => (intsOf r).map (n :: ·)
  | _ => none
theorem intsOf_ok : ∀ {l : List (List DV)} {bl : List Int}, intsOf l = some bl → l = bl.map intEl
  | [], bl, h => by simp [intsOf] at h; subst h; rfl
  | c :: r, bl, h => by
    unfold intsOf at h
    split at h
    · contradiction
    · rename_i n r' he
      obtain ⟨rfl, rfl⟩ := List.cons.inj he
      cases hr : intsOf r with
      | none => rw [hr] at h; contradiction
      | some b =>
        rw [hr] at h
        simp only [Option.map_some, Option.some.injEq] at h
        subst h
        rw [List.map_cons, ← intsOf_ok hr]; rfl
    · contradiction
def eP : Ent := ⟨[], false, true, false, true, false, 3, 0, 0⟩
def eA : Ent := ⟨[97], false, false, false, false, false, 9, 1, 16⟩
theorem chars_a : charsP [97] = some [97] := by
  rw [charsP_some (p := (97, 1)) (by decide) (by decide)]
  show Option.map _ (charsP []) = _
  rw [charsP_nil]; rfl
theorem comS_a : comS [97] = [8, 97] := by unfold comS; rw [chars_a]; decide +kernel
theorem comE_a : comE [97] = 0 := by unfold comE; rw [chars_a]; decide +kernel
theorem nameS_P : nameS eP = [] := rfl
theorem nameS_A : nameS eA = [8, 97] := by
  have h1 : rangeB eA = true := by decide +kernel
  unfold nameS; rw [if_pos h1, if_neg (by decide)]; exact comS_a
theorem ok_P : entOk eP = true := by decide +kernel
theorem ok_A : entOk eA = true := by
  have h1 : rangeB eA = true := by decide +kernel
  have h2 : nameOk eA = true := by
    unfold nameOk; rw [if_neg (by decide)]
    show (decide (comE [97] = 0) && (!([97] == []) && decide (((comS [97]).length : Int) ≤ 255))) = true
    rw [comE_a, comS_a]; decide +kernel
  unfold entOk; rw [h1, h2]; rfl
def bodyM (f : Ent) (n : List UInt8) : List UInt8 :=
  leN 2 1 ++ leN 1 (bitN (flagL f)) ++ leN 1 n.length ++ (leN 4 2048 ++ leN 4 f.blk ++ leN 2 f.prt) ++ leN 2 0 ++ leN 4 f.uniq ++ leN 2 0 ++ n ++ List.replicate (roundN (38 + n.length) - 38 - n.length) 0
theorem bodyM_eq {f : Ent} {n : List UInt8} (h : nameS f = n) : fidBody f = bodyM f n := by unfold fidBody sizeN bodyM; rw [h]
def litM (f : Ent) (n : List UInt8) : List UInt8 := summed (tagHead 257 1 5 (bodyM f n)) ++ bodyM f n
theorem enf_lit {f : Ent} {n : List UInt8} (h1 : entOk f = true) (h2 : nameS f = n) (h3 : ¬ 65535 < (bodyM f n).length) : enfS f 5 = litM f n ∧ enfE f 5 = 0 := by
  have hw : wordB 5 = true := by decide
  have hr : rangedB 257 1 5 = true := by decide +kernel
  unfold enfS enfE
  rw [if_pos h1, if_pos h1, if_pos hw, if_pos hw, if_pos hr, if_pos hr, bodyM_eq h2, if_neg h3, if_neg h3]
  exact ⟨rfl, rfl⟩
def litA : List UInt8 := litM eP [] ++ litM eA [8, 97]
theorem encAll_a : encAllV [eP, eA] [5] = .tup [.str litA, .int .i64 0] := by
  obtain ⟨a1, a2⟩ := enf_lit ok_P nameS_P (by decide +kernel)
  obtain ⟨b1, b2⟩ := enf_lit ok_A nameS_A (by decide +kernel)
  have hl : locB [5] (litM eP []).length = 5 := by decide +kernel
  have hb : hasB [5] (litM eP []).length = true := by decide +kernel
  have : encAllP [eP, eA] [5] = (litA, 0) := by
    rw [encAllP, if_neg (by decide), encL, if_neg (by rw [ok_P]; decide), if_neg (by decide)]
    rw [show locB [5] ([] : List UInt8).length = 5 from rfl, if_pos a2, a1, List.nil_append, encL, if_neg (by rw [ok_A]; decide), if_neg (by rw [hb]; decide), hl, if_pos b2, b1, encL]
    rfl
  rw [encAllV, this]
def entsOf : List (List DV) → Option (List Ent)
  | [] => some []
  | [.str n, .bool a, .bool b, .bool c, .bool d, .bool e, .int .i64 x, .int .i64 y, .int .i64 z] :: r => (entsOf r).map (⟨n, a, b, c, d, e, x, y, z⟩ :: ·)
  | _ => none
theorem entsOf_ok : ∀ {l : List (List DV)} {es : List Ent}, entsOf l = some es → l = es.map entEl
  | [], es, h => by simp [entsOf] at h; subst h; rfl
  | c :: r, es, h => by
    unfold entsOf at h
    split at h
    · contradiction
    · rename_i r' he
      obtain ⟨rfl, rfl⟩ := List.cons.inj he
      cases hr : entsOf r with
      | none => rw [hr] at h; contradiction
      | some b =>
        rw [hr] at h
        simp only [Option.map_some, Option.some.injEq] at h
        subst h
        rw [List.map_cons, ← entsOf_ok hr]; rfl
    · contradiction
theorem decAll_a : decAllV litA [5] = .tup [.sl .any [entEl eP, entEl eA], .int .i64 0] := by
  have k1 : decF litA 5 = some (eP, 40) := by
    have h1 : tagF litA 5 = true := by decide +kernel
    have h2 : atF litA = eP := by decide +kernel
    unfold decF
    rw [if_neg (by rw [h1]; decide), if_neg (by decide +kernel), if_neg (by decide +kernel), if_neg (by decide +kernel), h2, if_neg (by rw [ok_P]; decide)]
    exact congrArg (fun n => some (_, n)) (by decide +kernel)
  have k2 : decF (litA.drop 40) 5 = some (eA, 40) := by
    have h1 : tagF (litA.drop 40) 5 = true := by decide +kernel
    have h2 : atF (litA.drop 40) = eA := by decide +kernel
    unfold decF
    rw [if_neg (by rw [h1]; decide), if_neg (by decide +kernel), if_neg (by decide +kernel), if_neg (by decide +kernel), h2, if_neg (by rw [ok_A]; decide)]
    exact congrArg (fun n => some (_, n)) (by decide +kernel)
  have hl : litA.length = 80 := by decide +kernel
  have k1' : decF (litA.drop 0) (locB [5] 0) = some (eP, 40) := by rw [List.drop_zero, show locB [5] 0 = 5 from rfl]; exact k1
  have k2' : decF (litA.drop 40) (locB [5] 40) = some (eA, 40) := by rw [show locB [5] 40 = 5 by decide +kernel]; exact k2
  have s1 := scanN_go (s := litA) (bl := [5]) (off := 0) (cnt := 0) 80 (by rw [hl]; decide) (by decide) (by decide +kernel) k1'
  have s2 := scanN_go (s := litA) (bl := [5]) (off := 40) (cnt := 1) 79 (by rw [hl]; decide) (by decide) (by decide +kernel) k2'
  have s3 := scanN_end (s := litA) (bl := [5]) (off := 80) (cnt := 2) 79 (by rw [hl]; decide)
  have hsc : scanF litA [5] = (0, [eP, eA], ent0) := by
    unfold scanF
    rw [hl]
    refine s1.trans ?_
    rw [Nat.zero_add, s2, s3]
  rw [decAllV, hsc]
  rfl
def ctr7 : Cf := fun f ds => match ds with
  | [.str s] => if f = 95 ∧ s.length < 2 ^ 40 then some (.int .u16 (crc16 s).toNat) else none
  | [.str s, .sl .any l] => if f = 16 ∧ s = litA ∧ intsOf l = some [5] then some (.tup [.sl .any [entEl eP, entEl eA], .int .i64 0]) else none
  | [.sl .any l, .sl .any m] => if f = 14 ∧ entsOf l = some [eP, eA] ∧ intsOf m = some [5] then some (.tup [.str litA, .int .i64 0]) else none
  | _ => none
theorem ctr7_ok : ∀ f ds r, ctr7 f ds = some r → PF Tryz.prog GT f ds r := by
  intro f ds r h
  unfold ctr7 at h
  split at h
  · rename_i s
    split at h
    · rename_i hc
      obtain ⟨rfl, hl⟩ := hc
      simp only [Option.some.injEq] at h; subst h
      exact p_crc16 s hl
    · contradiction
  · split at h
    · rename_i hc
      obtain ⟨rfl, rfl, h2⟩ := hc
      simp only [Option.some.injEq] at h; subst h
      rw [intsOf_ok h2, ← decAll_a]
      exact p_decodeAll litA [5] (by decide +kernel) (by decide)
    · contradiction
  · split at h
    · rename_i hc
      obtain ⟨rfl, h1, h2⟩ := hc
      simp only [Option.some.injEq] at h; subst h
      rw [intsOf_ok h2, entsOf_ok h1, ← encAll_a]
      exact p_encodeAll [eP, eA] [5] (by decide) (by decide)
    · contradiction
  · contradiction
theorem run7_ok {f : FuncId} {ds : List DV} {r : DV} (m d : Nat) (h : (exD Tryz.prog GT ctr7 m d).1 f ds = some r) : PF Tryz.prog GT f ds r := (exD_sound mo all_ok ctr7_ok m d).1 f ds r h
theorem p_awake35 : PF Tryz.prog GT 6 [] (.bool true) := run7_ok 1000 20 (by kernel_rfl)
end Go.Proofs.YtjmldlknegbimaaGreatDoor.Sx
