/- Plain laws of spaces of attributes: decoding what was encoded. -/
import Derived.Test.YtjmldlknegbimaaDoorC2
set_option linter.unusedVariables false
set_option linter.unusedSimpArgs false
namespace Go.Proofs.YtjmldlknegbimaaDoor.Sx
open Go Go.RowKit
theorem readN_leN (m : Nat) : ∀ W : Nat, readN (leN W m) = m % 256 ^ W
  | 0 => by simp [leN, readN, Nat.mod_one]
  | W + 1 => by
    rw [leN_succ, readN_snoc, readN_leN m W, leN_len, Nat.mod_pow_succ]
    have h := byteAt_toNat (m : Int) W
    have e : (2 : Int) ^ (8 * W) = ((256 ^ W : Nat) : Int) := by
      rw [Int.natCast_pow, Int.pow_mul]; rfl
    rw [e] at h
    have h' : (byteAt (m : Int) W).toNat = m / 256 ^ W % 256 := by omega
    rw [h', Nat.mul_comm]
theorem readN_leN4 (n : Int) (h0 : 0 ≤ n) (h1 : n < 4294967296) : (readN (leN 4 n) : Int) = n := by
  obtain ⟨m, rfl⟩ := Int.eq_ofNat_of_zero_le h0
  rw [readN_leN, Nat.mod_eq_of_lt (by omega)]
theorem readN_leN2 (n : Int) (h0 : 0 ≤ n) (h1 : n < 65536) : (readN (leN 2 n) : Int) = n := by
  obtain ⟨m, rfl⟩ := Int.eq_ofNat_of_zero_le h0
  rw [readN_leN, Nat.mod_eq_of_lt (by omega)]
theorem readN_leN1 (n : Int) (h0 : 0 ≤ n) (h1 : n ≤ 255) : (readN (leN 1 n) : Int) = n := by
  obtain ⟨m, rfl⟩ := Int.eq_ofNat_of_zero_le h0
  rw [readN_leN, Nat.mod_eq_of_lt (by omega)]

theorem attrBytes_length (a : Attr) (h : attrOk a = true) : (attrBytes a).length = attrLen a := by
  simp only [attrOk, Bool.and_eq_true, decide_eq_true_eq] at h
  simp only [attrBytes, List.length_append, leN_len, List.length_replicate, List.length_cons, List.length_nil]
  unfold attrLen; omega
theorem decA_attr (a : Attr) (rest : List UInt8) (h : attrOk a = true) : decA (attrBytes a ++ rest) = (decA rest).map (a :: ·) := by
  have hlen := attrBytes_length a h
  have hok := h
  simp only [attrOk, Bool.and_eq_true, decide_eq_true_eq] at h
  have hl1 : 16 + a.data.length ≤ attrLen a := by unfold attrLen; omega
  have hl2 : attrLen a < 2100 := by unfold attrLen; omega
  have hl4 : attrLen a % 4 = 0 := by unfold attrLen; omega
  have p0 : partOf (attrBytes a ++ rest) 0 4 = leN 4 a.ty := rfl
  have p4 : partOf (attrBytes a ++ rest) 4 1 = leN 1 a.sub := rfl
  have p8 : partOf (attrBytes a ++ rest) 8 4 = leN 4 (attrLen a) := rfl
  have p12 : partOf (attrBytes a ++ rest) 12 4 = leN 4 a.data.length := rfl
  have r0 := readN_leN4 a.ty (by omega) (by omega)
  have r4 := readN_leN1 a.sub (by omega) (by omega)
  have r8 := readN_leN4 (attrLen a) (by omega) (by omega)
  have r12 := readN_leN4 a.data.length (by omega) (by omega)
  have r8' : readN (leN 4 (attrLen a : Int)) = attrLen a := by omega
  have r12' : readN (leN 4 (a.data.length : Int)) = a.data.length := by omega
  have hrl : (attrBytes a ++ rest).length = attrLen a + rest.length := by rw [List.length_append, hlen]
  have hb : decBad (attrBytes a ++ rest) = false := by
    unfold decBad
    rw [p8, p12, r8, r12, hrl]
    have : ((attrLen a : Int).tmod 4 = 0) := by rw [Int.tmod_eq_emod_of_nonneg (by omega)]; omega
    simp [this]
    omega
  have p16 : partOf (attrBytes a ++ rest) 16 (a.data.length : Int) = a.data := by
    have : (attrBytes a ++ rest).drop 16 = a.data ++ (List.replicate (attrLen a - 16 - a.data.length) 0 ++ rest) := by
      show (a.data ++ List.replicate (attrLen a - 16 - a.data.length) 0) ++ rest = _
      rw [List.append_assoc]
    simp only [partOf, show (16 : Int).toNat = 16 from rfl, Int.toNat_natCast, this]
    rw [List.take_append_of_le_length (Nat.le_refl _), List.take_length]
  have hd : decAt (attrBytes a ++ rest) = a := by
    unfold decAt
    rw [p0, p4, p12, r12', p16, r0, r4]
  rw [decA, dif_neg (by omega), if_neg (by omega), dif_neg (by rw [hb]; decide), hd, p8, r8']
  congr 2
  rw [List.drop_append_of_le_length (by omega), List.drop_of_length_le (by omega), List.nil_append]
theorem decA_all : ∀ l : List Attr, (∀ a ∈ l, attrOk a = true) → decA ((l.map attrBytes).flatten) = some l
  | [], _ => by rw [decA]; simp
  | a :: l, h => by
    rw [List.map_cons, List.flatten_cons, decA_attr a _ (h a (by simp)), decA_all l (fun x hx => h x (by simp [hx]))]
    rfl
theorem encS_fold : ∀ (l : List Attr) (s : EncS), (l.foldl encStep s).b = s.b ++ (l.map attrBytes).flatten
  | [], s => by simp
  | a :: l, s => by rw [List.foldl_cons, encS_fold l]; simp [encStep]
theorem encS_b (l : List Attr) : (encS l).b = (l.map attrBytes).flatten := by rw [encS, encS_fold]; simp
theorem validA_all (l : List Attr) (h : validA l = true) : ∀ a ∈ l, attrOk a = true := by
  intro a ha
  obtain ⟨i, hi, rfl⟩ := List.mem_iff_getElem.1 ha
  exact validA_ok l h i hi

/-! A tag that is sealed is a tag without faults -/
def tagB (id a loc : Int) (body : List UInt8) : List UInt8 := leN 2 id ++ [3, 0, sum16 (tagHead id a loc body), 0] ++ leN 2 a ++ leN 2 (crc16 body).toNat ++ leN 2 body.length ++ leN 4 loc
theorem tagB_eq (id a loc : Int) (body : List UInt8) : summed (tagHead id a loc body) = tagB id a loc body := rfl
theorem tagB_len (id a loc : Int) (body : List UInt8) : (tagB id a loc body).length = 16 := rfl
theorem tag_sound (id a loc : Int) (body : List UInt8) (hid : 0 ≤ id ∧ id < 65536) (hloc : 0 ≤ loc ∧ loc < 4294967296) (hb : body.length < 65536) :
    tagFaults (tagB id a loc body ++ body) loc = [] ∧ (readN (partOf (tagB id a loc body ++ body) 0 2) : Int) = id := by
  have hl : (tagB id a loc body ++ body).length = 16 + body.length := by rw [List.length_append, tagB_len]
  have q0 : partOf (tagB id a loc body ++ body) 0 2 = leN 2 id := rfl
  have q2' : partOf (tagB id a loc body ++ body) 2 2 = [3, 0] := rfl
  have q2 : readN (partOf (tagB id a loc body ++ body) 2 2) = 3 := by rw [q2']; rfl
  have q8 : partOf (tagB id a loc body ++ body) 8 2 = leN 2 (crc16 body).toNat := rfl
  have q10 : partOf (tagB id a loc body ++ body) 10 2 = leN 2 body.length := rfl
  have q12 : partOf (tagB id a loc body ++ body) 12 4 = leN 4 loc := rfl
  have q4 : (tagB id a loc body ++ body).getD 4 0 = sum16 (tagHead id a loc body) := by
    unfold tagB
    generalize sum16 (tagHead id a loc body) = c
    rfl
  have qs' : (tagB id a loc body ++ body).take 4 ++ ((tagB id a loc body ++ body).take 16).drop 5 = (tagHead id a loc body).take 4 ++ ((tagHead id a loc body).take 16).drop 5 := rfl
  have qs : sum16 (tagB id a loc body ++ body) = sum16 (tagHead id a loc body) := by rw [sum16, qs', sum16]
  have hc := w16_lt (crc16 body)
  have r8 := readN_leN2 (crc16 body).toNat (by omega) hc
  have r10 := readN_leN2 body.length (by omega) (by omega)
  have r10' : readN (leN 2 (body.length : Int)) = body.length := by omega
  have r12 := readN_leN4 loc hloc.1 hloc.2
  have q16 : partOf (tagB id a loc body ++ body) 16 (body.length : Int) = body := by
    have : (tagB id a loc body ++ body).drop 16 = body := rfl
    simp only [partOf, show (16 : Int).toNat = 16 from rfl, Int.toNat_natCast, this, List.take_length]
  refine ⟨?_, by rw [q0]; exact readN_leN2 id hid.1 hid.2⟩
  unfold tagFaults
  rw [hl, if_neg (by simp; omega), q4, qs, q2, q10, r10', q16, q8, r8, q12, r12, if_neg (by simp; omega)]
  simp [faultI]

/-- What Encode gives, and that Decode gives it back. -/
theorem enc_dec (l : List Attr) (loc : Int) : (∃ e, e ≠ 0 ∧ encV l loc = .tup [.str [], .int .i64 e]) ∨
    ∃ s, encV l loc = .tup [.str s, .int .i64 0] ∧ decV s loc = .tup [.sl .any (l.map attrEl), .int .i64 0] ∧ s.length % 4 = 0 ∧ s.length ≤ 2048 ∧ (s = [] ↔ l = []) ∧
      (l ≠ [] → validA l = true ∧ s = tagB 262 1 loc (leN 4 (encS l).o1 ++ leN 4 (encS l).o2 ++ (encS l).b) ++ (leN 4 (encS l).o1 ++ leN 4 (encS l).o2 ++ (encS l).b)) := by
  unfold encV
  split
  · rename_i hv
    split
    · rename_i hloc
      simp only [Bool.and_eq_true, decide_eq_true_eq] at hloc
      split
      · rename_i hl
        have : l = [] := List.length_eq_zero_iff.1 hl
        subst this
        exact .inr ⟨[], rfl, by rw [decV]; simp, rfl, by simp, by simp, fun h => absurd rfl h⟩
      · rename_i hl
        split
        · exact .inl ⟨7, by decide, rfl⟩
        · rename_i hbig
          have hbody : (leN 4 (encS l).o1 ++ leN 4 (encS l).o2 ++ (encS l).b).length = 8 + (encS l).b.length := by simp [leN_len]; omega
          unfold sealV
          rw [if_pos (by simp [rangedB]; omega), if_neg (by omega), tagB_eq]
          refine .inr ⟨_, rfl, ?_, ?_, ?_, ?_, fun _ => ⟨hv, rfl⟩⟩
          · obtain ⟨t1, t2⟩ := tag_sound 262 1 loc (leN 4 (encS l).o1 ++ leN 4 (encS l).o2 ++ (encS l).b) (by omega) hloc (by omega)
            rw [decV]
            have hlen : (tagB 262 1 loc (leN 4 (encS l).o1 ++ leN 4 (encS l).o2 ++ (encS l).b) ++ (leN 4 (encS l).o1 ++ leN 4 (encS l).o2 ++ (encS l).b)).length = 24 + (encS l).b.length := by
              rw [List.length_append, tagB_len, hbody]; omega
            have hdrop : (tagB 262 1 loc (leN 4 (encS l).o1 ++ leN 4 (encS l).o2 ++ (encS l).b) ++ (leN 4 (encS l).o1 ++ leN 4 (encS l).o2 ++ (encS l).b)).drop 24 = (encS l).b := rfl
            rw [if_neg (by rw [hlen]; simp; omega), if_neg (by rw [hlen]; omega), if_neg (by rw [t1, t2, hlen]; simp), hdrop, encS_b, decA_all l (validA_all l hv)]
            simp [hv]
          · rw [List.length_append, tagB_len, hbody, encS_b]
            have : ∀ l : List Attr, (∀ a ∈ l, attrOk a = true) → ((l.map attrBytes).flatten).length % 4 = 0 := by
              intro l
              induction l with
              | nil => intro _; rfl
              | cons a r ih =>
                intro h
                have h1 := ih (fun x hx => h x (by simp [hx]))
                have h2 := attrBytes_length a (h a (by simp))
                rw [List.map_cons, List.flatten_cons, List.length_append, h2]
                unfold attrLen
                omega
            have := this l (validA_all l hv)
            omega
          · rw [List.length_append, tagB_len, hbody]; omega
          · constructor
            · intro h
              have := congrArg List.length h
              rw [List.length_append, tagB_len] at this
              simp at this
            · intro h; subst h; simp at hl
    · exact .inl ⟨2, by decide, rfl⟩
  · exact .inl ⟨1, by decide, rfl⟩
end Go.Proofs.YtjmldlknegbimaaDoor.Sx
