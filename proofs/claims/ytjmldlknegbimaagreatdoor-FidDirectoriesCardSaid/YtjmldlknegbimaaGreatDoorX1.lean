/- The two tables of unicode/utf8 as what the variables hold; utf8.DecodeRuneInString by the kit's contract. -/
import Derived.Test.YtjmldlknegbimaaGreatDoorX0
import Derived.Test.YtjmldlknegbimaaGreatDoorM4
import Derived.Test.YtjmldlknegbimaaGreatDoorS1
import Derived.Lib.LaidU8
set_option linter.unusedVariables false
set_option linter.unusedSimpArgs false
namespace Go.Proofs
open Go.Shelf Go.RowKit Go.Lib
theorem Tryz.u8Extra : U8Extra Tryz.prog Tryz.laysDecode_ren where
  n3 := by kernel_rfl
  n4 := by kernel_rfl
  y3 := by kernel_rfl
  y4 := by kernel_rfl
  c5 := by kernel_rfl
  c119 := by kernel_rfl
  c138 := by kernel_rfl
end Go.Proofs
namespace Go.Proofs.YtjmldlknegbimaaGreatDoor.Sx
open Go Go.RowKit
def tabF : List DV := (List.range 256).map fun c => .int .u8 (Lib.firstT c : Nat)
def tabA : List DV := (List.range 32).map fun j => .int .u8 ((if j % 2 = 0 then Lib.accLo (j / 2) else Lib.accHi (j / 2) : Nat) : Int)
/-- What the two tables hold. -/
def GT : Gl := fun g => if g = 1 then some tabF else if g = 2 then some tabA else none
theorem getD_map_range (f : Nat → DV) (n j : Nat) (h : j < n) : ((List.range n).map f).getD j .nilp = f j := by
  simp [List.getD_eq_getElem?_getD, h]
theorem rel_int {K : Mem} {k : IntKind} {n : Int} {v : Value} (h : Rel K (.int k n) v) : v = .int k n := by cases h; rfl
theorem eptr_cell {K : Mem} {g n : Nat} {f : Nat → DV} (h : Rel K (.eptr ((List.range n).map f) 0) (.pointer (some ⟨g, 0, none⟩))) (j : Nat) (hj : j < n) : ∃ v, K ⟨g, j, none⟩ = some v ∧ Rel K (f j) v := by
  generalize hp : Value.pointer (some ⟨g, 0, none⟩) = p at h
  cases h with
  | eptr _ _ a val hK hr =>
    have ha : a.add 0 = a := by simp [Addr.add]
    rw [ha] at hp
    have : a = ⟨g, 0, none⟩ := by simpa using hp.symm
    subst this
    have h1 := hK j (by simpa using hj)
    have h2 := hr j (by simpa using hj)
    rw [Addr.add_mk, Nat.zero_add] at h1
    rw [getD_map_range f n j hj] at h2
    exact ⟨_, h1, h2⟩
theorem tabs_of {K : Mem} {w : World} (hG : GOk K GT) (hA : Agree K w) : Lib.Utf8Tabs 1 2 w := by
  have h1 := hG 1 tabF rfl
  have h2 := hG 2 tabA rfl
  refine ⟨fun c hc => ?_, fun i hi => ⟨?_, ?_⟩⟩
  · obtain ⟨v, hv, hr⟩ := eptr_cell h1 c hc
    rw [rel_int hr] at hv
    exact hA _ _ hv
  · obtain ⟨v, hv, hr⟩ := eptr_cell h2 (2 * i) (by omega)
    have hr := rel_int hr
    rw [if_pos (by omega), show 2 * i / 2 = i by omega] at hr
    rw [hr] at hv
    exact hA _ _ hv
  · obtain ⟨v, hv, hr⟩ := eptr_cell h2 (2 * i + 1) (by omega)
    have hr := rel_int hr
    rw [if_neg (by omega), show (2 * i + 1) / 2 = i by omega] at hr
    rw [hr] at hv
    exact hA _ _ hv
theorem PF.of_belowG {P : Program} {G : Gl} {f : FuncId} {ds : List DV} {vs : List Value} {r : DV} {v : Value} (hok : fnOk P f = true) (hvs : ds.map valS = vs.map some) (hv : ∀ K, Rel K r v)
    (h : ∀ w, (∃ K, Agree K w ∧ GOk K G) → Calls P f vs.toArray w fun e w' => e = .returned v ∧ Below w.heap.size w w') : PF P G f ds r := by
  intro H
  refine ⟨hok, fun X K ι w us hsr hG hl hr => ?_⟩
  have hlen : ds.length = vs.length := by have := congrArg List.length hvs; simpa using this
  have : us = vs.toArray := by
    apply Array.ext
    · simp at hl; simp [hl, hlen]
    · intro i h1 h2
      have hi : i < ds.length := by simp at hl; omega
      have hi2 : i < vs.length := by omega
      have h3 := hr i (by simpa using hi)
      rw [getD_map' AV.d ds i .nilp _ hi] at h3
      have h4 : valS ds[i] = some vs[i] := by
        have := congrArg (fun l => l[i]?) hvs
        simpa [hi, hi2] using this
      have h5 := valS_rel h4 (by simpa [List.getD_eq_getElem?_getD, hi] using h3.get)
      simp [Array.getD, h1] at h5
      simpa using h5
  subst this
  refine (h w ⟨K, hsr.agree, hG⟩).mono ?_
  rintro e w' ⟨rfl, hb⟩
  exact ⟨v, rfl, K, ι, hsr.ext ⟨Mem.le_refl K, fun _ _ => rfl, agree_below hsr.agree hb, hb⟩, .d _ _ (hv K), Mem.le_refl K, Pls.le_refl _ _, Nat.le_refl _⟩
/-- What Go's decoder says of a text, over its bytes. -/
def decP (s : List UInt8) : Nat × Nat := Lib.decodeGo ⟨s.toArray⟩
theorem p_decode (s : List UInt8) : PF Tryz.prog GT 106 [.str s] (.tup [.int .i32 (decP s).1, .int .i64 (decP s).2]) := by
  refine PF.of_belowG (vs := [.string ⟨s.toArray⟩]) (v := .tuple #[.int .i32 (decP s).1, .int .i64 (decP s).2]) (by kernel_rfl) rfl (fun K => .tup _ _ rfl fun i hi => ?_) (fun w ⟨K, hA, hG⟩ => ?_)
  · match i, hi with
    | 0, _ => exact .int _ _
    | 1, _ => exact .int _ _
  · exact Any.utf8_DecodeRuneInString Tryz.laysDecode ⟨s.toArray⟩ w (tabs_of hG hA)

/-- A character at the front, and its length. -/
def chr1 (s : List UInt8) : Option (Nat × Nat) :=
  match s with
  | [] => none
  | b0 :: r =>
    if b0.toNat < 128 then (if 32 ≤ b0.toNat then some (b0.toNat, 1) else none)
    else match r with
      | [] => none
      | b1 :: r2 =>
        if b0.toNat / 32 = 6 then
          (if b1.toNat / 64 = 2 ∧ 128 ≤ b0.toNat % 32 * 64 + b1.toNat % 64 then some (b0.toNat % 32 * 64 + b1.toNat % 64, 2) else none)
        else match r2 with
          | [] => none
          | b2 :: _ =>
            if b0.toNat / 16 = 14 ∧ b1.toNat / 64 = 2 ∧ b2.toNat / 64 = 2 ∧ 2048 ≤ b0.toNat % 16 * 4096 + b1.toNat % 64 * 64 + b2.toNat % 64 ∧
              (b0.toNat % 16 * 4096 + b1.toNat % 64 * 64 + b2.toNat % 64 < 55296 ∨ (57344 ≤ b0.toNat % 16 * 4096 + b1.toNat % 64 * 64 + b2.toNat % 64 ∧ b0.toNat % 16 * 4096 + b1.toNat % 64 * 64 + b2.toNat % 64 ≤ 65533))
            then some (b0.toNat % 16 * 4096 + b1.toNat % 64 * 64 + b2.toNat % 64, 3) else none
def charB (n : Int) : Bool := decide (32 ≤ n) && (decide (n ≤ 65533) && (decide (n < 55296) || decide (57343 < n)))
def decN (n x y z u : Nat) : Nat × Nat :=
  if x < 128 then (x, 1)
  else if x / 32 = 6 ∧ 1 < n ∧ y / 64 = 2 then (if 128 ≤ x % 32 * 64 + y % 64 then (x % 32 * 64 + y % 64, 2) else (65533, 1))
  else if (x / 16 = 14 ∧ 1 < n ∧ y / 64 = 2) ∧ 2 < n ∧ z / 64 = 2 then
    (if 2048 ≤ x % 16 * 4096 + y % 64 * 64 + z % 64 ∧ (x % 16 * 4096 + y % 64 * 64 + z % 64 < 55296 ∨ 57344 ≤ x % 16 * 4096 + y % 64 * 64 + z % 64) then (x % 16 * 4096 + y % 64 * 64 + z % 64, 3) else (65533, 1))
  else if ((x / 8 = 30 ∧ 1 < n ∧ y / 64 = 2) ∧ 2 < n ∧ z / 64 = 2) ∧ 3 < n ∧ u / 64 = 2 then
    (if 65536 ≤ x % 8 * 262144 + y % 64 * 4096 + z % 64 * 64 + u % 64 ∧ x % 8 * 262144 + y % 64 * 4096 + z % 64 * 64 + u % 64 ≤ 1114111 then (x % 8 * 262144 + y % 64 * 4096 + z % 64 * 64 + u % 64, 4) else (65533, 1))
  else (65533, 1)
theorem get_at (s : List UInt8) (k : Nat) : ((⟨s.toArray⟩ : ByteArray).get! k) = s.getD k 0 := by
  show (s.toArray)[k]! = s.getD k 0
  rw [getElem!_def]
  simp only [List.getElem?_toArray, List.getD_eq_getElem?_getD]
  cases s[k]? <;> rfl
theorem decP_eq (s : List UInt8) (hs : s ≠ []) : decP s = decN s.length (s.getD 0 0).toNat (s.getD 1 0).toNat (s.getD 2 0).toNat (s.getD 3 0).toNat := by
  have hn : (⟨s.toArray⟩ : ByteArray).size = s.length := by simp [ByteArray.size]
  have h0 : s.length ≠ 0 := fun h => hs (List.length_eq_zero_iff.1 h)
  unfold decP Lib.decodeGo
  rw [hn, if_neg h0]
  unfold Utf8.decode decN
  simp only [hn, Nat.zero_add, get_at, Utf8.valid, Bool.and_eq_true, Bool.or_eq_true, beq_iff_eq, decide_eq_true_eq, ge_iff_le]
  have hu := (s.getD 3 0).toNat_lt
  repeat' split
  all_goals first | rfl | (exfalso; omega) | skip
theorem charB_iff (n : Nat) : charB (n : Int) = true ↔ 32 ≤ n ∧ n ≤ 65533 ∧ (n < 55296 ∨ 57343 < n) := by
  simp only [charB, Bool.and_eq_true, Bool.or_eq_true, decide_eq_true_eq]; omega
theorem dec_chr (s : List UInt8) (hs : s ≠ []) : chr1 s = if charB (decP s).1 = true ∧ ¬ ((decP s).1 = 65533 ∧ (decP s).2 = 1) then some (decP s) else none := by
  rw [decP_eq s hs]
  simp only [charB_iff]
  rcases s with _ | ⟨b0, _ | ⟨b1, _ | ⟨b2, r⟩⟩⟩
  · exact absurd rfl hs
  · simp only [chr1, decN, List.getD_cons_zero, List.length_cons, List.length_nil]
    have := b0.toNat_lt
    repeat' split
    all_goals first | with_reducible rfl | (exfalso; omega) | rfl
  · simp only [chr1, decN, List.getD_cons_zero, List.getD_cons_succ, List.length_cons, List.length_nil]
    have := b0.toNat_lt
    have := b1.toNat_lt
    repeat' split
    all_goals first | with_reducible rfl | (exfalso; omega) | rfl
  · simp only [chr1, decN, List.getD_cons_zero, List.getD_cons_succ, List.length_cons]
    have := b0.toNat_lt
    have := b1.toNat_lt
    have := b2.toNat_lt
    repeat' split
    all_goals first | with_reducible rfl | (exfalso; omega) | rfl
end Go.Proofs.YtjmldlknegbimaaGreatDoor.Sx
