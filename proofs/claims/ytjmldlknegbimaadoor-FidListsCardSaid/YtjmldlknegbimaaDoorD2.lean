/- Plain laws of entries: decoding what was encoded; a name expanded that was compressed. -/
import Derived.Test.YtjmldlknegbimaaDoorB30
set_option linter.unusedVariables false
set_option linter.unusedSimpArgs false
namespace Go.Proofs.YtjmldlknegbimaaDoor.Sx
open Go Go.RowKit
/-! Numbers read back -/
theorem rdN (m : Nat) : ∀ W : Nat, readN (leN W m) = m % 256 ^ W
  | 0 => by simp [leN, readN, Nat.mod_one]
  | W + 1 => by
    rw [leN_succ, readN_snoc, rdN m W, leN_len, Nat.mod_pow_succ]
    have h := byteAt_toNat (m : Int) W
    have e : (2 : Int) ^ (8 * W) = ((256 ^ W : Nat) : Int) := by
      rw [Int.natCast_pow, Int.pow_mul]; rfl
    rw [e] at h
    have h' : (byteAt (m : Int) W).toNat = m / 256 ^ W % 256 := by omega
    rw [h', Nat.mul_comm]
theorem rd4 (n : Int) (h0 : 0 ≤ n) (h1 : n < 4294967296) : (readN (leN 4 n) : Int) = n := by
  obtain ⟨m, rfl⟩ := Int.eq_ofNat_of_zero_le h0
  rw [rdN, Nat.mod_eq_of_lt (by omega)]
theorem rd2 (n : Int) (h0 : 0 ≤ n) (h1 : n < 65536) : (readN (leN 2 n) : Int) = n := by
  obtain ⟨m, rfl⟩ := Int.eq_ofNat_of_zero_le h0
  rw [rdN, Nat.mod_eq_of_lt (by omega)]
theorem rd1 (n : Int) (h0 : 0 ≤ n) (h1 : n ≤ 255) : (readN (leN 1 n) : Int) = n := by
  obtain ⟨m, rfl⟩ := Int.eq_ofNat_of_zero_le h0
  rw [rdN, Nat.mod_eq_of_lt (by omega)]
/-! A tag that is sealed, with more behind it -/
def tagZ (id a loc : Int) (body : List UInt8) : List UInt8 := leN 2 id ++ [3, 0, sum16 (tagHead id a loc body), 0] ++ leN 2 a ++ leN 2 (crc16 body).toNat ++ leN 2 body.length ++ leN 4 loc
theorem tagZ_eq (id a loc : Int) (body : List UInt8) : summed (tagHead id a loc body) = tagZ id a loc body := rfl
theorem tagZ_len (id a loc : Int) (body : List UInt8) : (tagZ id a loc body).length = 16 := rfl
theorem tag_more (id a loc : Int) (body rest : List UInt8) (hid : 0 ≤ id ∧ id < 65536) (hloc : 0 ≤ loc ∧ loc < 4294967296) (hb : body.length < 65536) :
    tagFaults (tagZ id a loc body ++ (body ++ rest)) loc = [] ∧ (readN (partOf (tagZ id a loc body ++ (body ++ rest)) 0 2) : Int) = id := by
  have hl : (tagZ id a loc body ++ (body ++ rest)).length = 16 + (body.length + rest.length) := by rw [List.length_append, tagZ_len, List.length_append]
  have q0 : partOf (tagZ id a loc body ++ (body ++ rest)) 0 2 = leN 2 id := rfl
  have q2' : partOf (tagZ id a loc body ++ (body ++ rest)) 2 2 = [3, 0] := rfl
  have q2 : readN (partOf (tagZ id a loc body ++ (body ++ rest)) 2 2) = 3 := by rw [q2']; rfl
  have q8 : partOf (tagZ id a loc body ++ (body ++ rest)) 8 2 = leN 2 (crc16 body).toNat := rfl
  have q10 : partOf (tagZ id a loc body ++ (body ++ rest)) 10 2 = leN 2 body.length := rfl
  have q12 : partOf (tagZ id a loc body ++ (body ++ rest)) 12 4 = leN 4 loc := rfl
  have q4 : (tagZ id a loc body ++ (body ++ rest)).getD 4 0 = sum16 (tagHead id a loc body) := by
    unfold tagZ
    generalize sum16 (tagHead id a loc body) = c
    rfl
  have qs' : (tagZ id a loc body ++ (body ++ rest)).take 4 ++ ((tagZ id a loc body ++ (body ++ rest)).take 16).drop 5 = (tagHead id a loc body).take 4 ++ ((tagHead id a loc body).take 16).drop 5 := rfl
  have qs : sum16 (tagZ id a loc body ++ (body ++ rest)) = sum16 (tagHead id a loc body) := by rw [sum16, qs', sum16]
  have hc := w16_lt (crc16 body)
  have r8 := rd2 (crc16 body).toNat (by omega) hc
  have r10 := rd2 body.length (by omega) (by omega)
  have r10' : readN (leN 2 (body.length : Int)) = body.length := by omega
  have r12 := rd4 loc hloc.1 hloc.2
  have q16 : partOf (tagZ id a loc body ++ (body ++ rest)) 16 (body.length : Int) = body := by
    have : (tagZ id a loc body ++ (body ++ rest)).drop 16 = body ++ rest := rfl
    simp only [partOf, show (16 : Int).toNat = 16 from rfl, Int.toNat_natCast, this, List.take_left]
  refine ⟨?_, by rw [q0]; exact rd2 id hid.1 hid.2⟩
  unfold tagFaults
  rw [hl, if_neg (by simp; omega), q4, qs, q2, q10, r10', q16, q8, r8, q12, r12, if_neg (by simp; omega)]
  simp [faultI]
/-! Characters -/
theorem byteU (k : Int) (b : UInt8) (h : k = (b.toNat : Int)) : UInt8.ofNat (IntKind.u8.wrap k).toNat = b := by
  subst h
  have := b.toNat_lt
  rw [IntKind.wrap_u8, Int.emod_eq_of_lt (by omega) (by omega), Int.toNat_natCast]
  simp
theorem encC_one (n : Nat) (b : UInt8) (h : n < 128) (h1 : n = b.toNat) : encC n = [b] := by
  unfold encC
  simp only []
  rw [if_pos (by omega), byteU _ b (by omega)]
theorem encC_two (n : Nat) (b c : UInt8) (h : 128 ≤ n) (h2 : n < 2048) (h1 : 192 + n / 64 = b.toNat) (h3 : 128 + n % 64 = c.toNat) : encC n = [b, c] := by
  unfold encC
  simp only []
  rw [if_neg (by omega), if_pos (by omega), Int.tdiv_eq_ediv_of_nonneg (by omega), Int.tmod_eq_emod_of_nonneg (by omega), byteU _ b (by omega), byteU _ c (by omega)]
theorem encC_three (n : Nat) (b c d : UInt8) (h : 2048 ≤ n) (h1 : 224 + n / 4096 = b.toNat) (h3 : 128 + n / 64 % 64 = c.toNat) (h4 : 128 + n % 64 = d.toNat) : encC n = [b, c, d] := by
  unfold encC
  simp only []
  have h64 : (0 : Int) ≤ (n : Int) / 64 := by omega
  rw [if_neg (by omega), if_neg (by omega), Int.tdiv_eq_ediv_of_nonneg (by omega), Int.tdiv_eq_ediv_of_nonneg (by omega), Int.tmod_eq_emod_of_nonneg h64, Int.tmod_eq_emod_of_nonneg (by omega), byteU _ b (by omega), byteU _ c (by omega), byteU _ d (by omega)]
theorem chr1_enc {s : List UInt8} {p : Nat × Nat} (h : chr1 s = some p) : charB p.1 = true ∧ encC p.1 = s.take p.2 := by
  rcases s with _ | ⟨b0, _ | ⟨b1, _ | ⟨b2, r⟩⟩⟩
  · simp [chr1] at h
  all_goals (have q0 := b0.toNat_lt)
  · simp only [chr1] at h
    repeat' split at h
    all_goals first | contradiction | skip
    simp only [Option.some.injEq] at h; subst h
    exact ⟨by simp [charB]; omega, encC_one _ b0 (by omega) rfl⟩
  · have q1 := b1.toNat_lt
    simp only [chr1] at h
    repeat' split at h
    all_goals first | contradiction | skip
    all_goals (simp only [Option.some.injEq] at h; subst h)
    · exact ⟨by simp [charB]; omega, encC_one _ b0 (by omega) rfl⟩
    · exact ⟨by simp [charB]; omega, encC_two _ b0 b1 (by omega) (by omega) (by omega) (by omega)⟩
  · have q1 := b1.toNat_lt
    have q2 := b2.toNat_lt
    simp only [chr1] at h
    repeat' split at h
    all_goals first | contradiction | skip
    all_goals (simp only [Option.some.injEq] at h; subst h)
    · exact ⟨by simp [charB]; omega, encC_one _ b0 (by omega) rfl⟩
    · exact ⟨by simp [charB]; omega, encC_two _ b0 b1 (by omega) (by omega) (by omega) (by omega)⟩
    · exact ⟨by simp [charB]; omega, encC_three _ b0 b1 b2 (by omega) (by omega) (by omega) (by omega)⟩
theorem charsP_enc : ∀ (n : Nat) (s : List UInt8) (l : List Nat), s.length ≤ n → charsP s = some l → (l.map fun c => encC (c : Nat)).flatten = s ∧ ∀ c ∈ l, charB (c : Nat) = true := by
  intro n
  induction n with
  | zero =>
    intro s l hs h
    have : s = [] := List.length_eq_zero_iff.1 (by omega)
    subst this
    rw [charsP_nil] at h
    simp only [Option.some.injEq] at h; subst h
    exact ⟨rfl, fun c hc => by simp at hc⟩
  | succ n ih =>
    intro s l hs h
    by_cases h0 : s = []
    · subst h0
      rw [charsP_nil] at h
      simp only [Option.some.injEq] at h; subst h
      exact ⟨rfl, fun c hc => by simp at hc⟩
    · rcases hc : chr1 s with _ | p
      · rw [charsP_none h0 hc] at h; cases h
      · rw [charsP_some h0 hc] at h
        have hl := chr1_len hc
        obtain ⟨e1, e2⟩ := chr1_enc hc
        rcases hr : charsP (s.drop p.2) with _ | m
        · rw [hr] at h; cases h
        · rw [hr] at h
          simp only [Option.map_some, Option.some.injEq] at h
          subst h
          obtain ⟨i1, i2⟩ := ih (s.drop p.2) m (by simp only [List.length_drop]; omega) hr
          refine ⟨?_, ?_⟩
          · rw [List.map_cons, List.flatten_cons, i1, e2, List.take_append_drop]
          · intro c hc'
            rcases List.mem_cons.1 hc' with rfl | h2
            · exact e1
            · exact i2 c h2
/-! A name expanded that was compressed -/
theorem accU_be1 (n : Nat) (h : n < 256) : accU (beC 1 n) = n := by
  show 256 * 0 + (byteAt n 0).toNat = n
  have := byteAt_toNat n 0
  simp only [Nat.mul_zero, Int.pow_zero] at this
  omega
theorem accU_be2 (n : Nat) (h : n < 65536) : accU (beC 2 n) = n := by
  show 256 * (256 * 0 + (byteAt n 1).toNat) + (byteAt n 0).toNat = n
  have h0 := byteAt_toNat n 0
  have h1 := byteAt_toNat n 1
  have e : (2 : Int) ^ (8 * 1) = 256 := by decide
  rw [e] at h1
  simp only [Nat.mul_zero, Int.pow_zero] at h0
  omega
theorem flat_part (W : Nat) : ∀ (l : List Nat) (j : Nat) (h : j < l.length), (((l.map (beC W)).flatten).drop (W * j)).take W = beC W l[j]
  | [], j, h => by simp at h
  | c :: l, 0, h => by
    rw [List.map_cons, List.flatten_cons, Nat.mul_zero, List.drop_zero, List.take_append_of_le_length (by rw [beC_len]; omega), List.take_of_length_le (by rw [beC_len]; omega)]; rfl
  | c :: l, j + 1, h => by
    rw [List.map_cons, List.flatten_cons, Nat.mul_succ, Nat.add_comm (W * j) W, List.drop_append, List.drop_of_length_le (by rw [beC_len]; omega), List.nil_append, beC_len, show W + W * j - W = W * j by omega, flat_part W l j (by simpa using h)]
    rfl
theorem exp_compB (W : Nat) (l : List Nat) (hW : W = 1 ∨ W = 2) (hl : l ≠ []) (hn : ∀ c ∈ l, c < 256 ^ W) (hc : ∀ c ∈ l, charB (c : Nat) = true) (hb : (compB W l).length ≤ 65536) :
    expS (compB W l) = (l.map fun c => encC (c : Nat)).flatten ∧ expE (compB W l) = 0 := by
  have hlen := compB_len W l
  have hh : headU (compB W l) = 8 * W := by rcases hW with rfl | rfl <;> rfl
  have hw : widthU (compB W l) = W := by unfold widthU; rw [hh]; rcases hW with rfl | rfl <;> rfl
  have hbad : badU (compB W l) = false := by
    unfold badU; rw [hh, hlen]
    rcases hW with rfl | rfl <;> simp <;> omega
  have hcnt : countU (compB W l) = l.length := by
    unfold countU; rw [hw, hlen]
    rcases hW with rfl | rfl <;> omega
  have hun : ∀ j (h : j < l.length), unitU (compB W l) j = l[j] := fun j h => by
    have hd : (compB W l).drop (1 + W * j) = ((l.map (beC W)).flatten).drop (W * j) := by
      rw [compB, Nat.add_comm 1, List.drop_succ_cons]
    unfold unitU
    rw [hw, hd, flat_part W l j h]
    have := hn l[j] (by simp)
    rcases hW with rfl | rfl
    · exact accU_be1 _ (by simpa using this)
    · exact accU_be2 _ (by simpa using this)
  have htx : textU (compB W l) l.length = (l.map fun c => encC (c : Nat)).flatten := by
    unfold textU
    refine congrArg List.flatten ?_
    apply List.ext_getElem
    · simp
    · intro i h1 h2
      simp only [List.getElem_map, List.getElem_range]
      rw [hun i (by simpa using h1)]
  have hall : ((List.range l.length).all fun j => charB (unitU (compB W l) j)) = true := by
    rw [List.all_eq_true]
    intro j hj
    have hj' : j < l.length := by simpa using hj
    rw [hun j hj']
    exact hc _ (by simp)
  have h1 : ¬ decide (65536 < ((compB W l).length : Int)) = true := by simp; omega
  have h2 : compB W l ≠ [] := by simp [compB]
  unfold expS expE
  have hbn : ¬ badU (compB W l) = true := by rw [hbad]; decide
  rw [if_neg h1, if_neg h1, if_neg h2, if_neg h2, if_neg hbn, if_neg hbn, hcnt, if_pos hall, if_pos hall, htx]
  exact ⟨rfl, rfl⟩
theorem exp_squeeze (l : List Nat) (hl : l ≠ []) (hc : ∀ c ∈ l, charB (c : Nat) = true) (hb : (squeezeP l).length ≤ 65536) :
    expS (squeezeP l) = (l.map fun c => encC (c : Nat)).flatten ∧ expE (squeezeP l) = 0 := by
  have hz : squeezeP l = compB (sizeC l) l := by rw [squeezeP, if_neg (by simpa using hl)]
  have hn : ∀ c ∈ l, c < 256 ^ sizeC l := fun c h => by
    have := hc c h
    simp only [charB, Bool.and_eq_true, decide_eq_true_eq] at this
    unfold sizeC
    split
    · omega
    · rename_i ha
      have : ¬ 255 < c := fun hc' => ha (List.any_eq_true.2 ⟨c, h, by simpa using hc'⟩)
      omega
  rw [hz] at hb ⊢
  exact exp_compB (sizeC l) l (sizeC_two l) hl hn hc hb
/-- The name of a valid entry, compressed and expanded. -/
theorem exp_com (s : List UInt8) (h0 : comE s = 0) (hs : s ≠ []) (hb : (comS s).length ≤ 255) : expS (comS s) = s ∧ expE (comS s) = 0 ∧ comS s ≠ [] := by
  unfold comE at h0
  split at h0
  · contradiction
  rename_i hlen
  split at h0
  · contradiction
  rename_i l hl
  have he : comS s = squeezeP l := by unfold comS; rw [if_neg hlen, hl]
  obtain ⟨c1, c2⟩ := charsP_enc s.length s l (Nat.le_refl _) hl
  have hne : l ≠ [] := by rintro rfl; exact hs c1.symm
  rw [he] at hb ⊢
  obtain ⟨x1, x2⟩ := exp_squeeze l hne c2 (by omega)
  exact ⟨x1.trans c1, x2, by rw [squeezeP, if_neg (by simpa using hne)]; simp [compB]⟩
/-! An entry read back -/
theorem part_skip (T X : List UInt8) (hT : T.length = 16) (a b w : Int) (h : a.toNat = 16 + b.toNat) : partOf (T ++ X) a w = partOf X b w := by
  unfold partOf
  rw [h, List.drop_append, List.drop_of_length_le (by omega), List.nil_append, hT, show 16 + b.toNat - 16 = b.toNat by omega]
theorem fidBody_len (f : Ent) (h : entOk f = true) : (fidBody f).length = sizeN f - 16 ∧ 38 ≤ sizeN f ∧ sizeN f ≤ 296 ∧ sizeN f % 4 = 0 ∧ 38 + (nameS f).length ≤ sizeN f := by
  have hn := nameS_le f h
  have hz : 38 + (nameS f).length ≤ sizeN f := by unfold sizeN roundN; omega
  refine ⟨?_, by omega, by unfold sizeN roundN; omega, by unfold sizeN roundN; omega, hz⟩
  simp only [fidBody, List.length_append, leN_len, List.length_replicate]
  omega
theorem bit_five : ∀ a b c d e : Bool, bitAt (bitN [a, b, c, d, e]) 0 = a ∧ bitAt (bitN [a, b, c, d, e]) 1 = b ∧ bitAt (bitN [a, b, c, d, e]) 2 = c ∧ bitAt (bitN [a, b, c, d, e]) 3 = d ∧ bitAt (bitN [a, b, c, d, e]) 4 = e ∧ bitN [a, b, c, d, e] < 32 := by decide
theorem bit_flag (f : Ent) : bitAt (bitN (flagL f)) 0 = f.hid ∧ bitAt (bitN (flagL f)) 1 = f.dir ∧ bitAt (bitN (flagL f)) 2 = f.del ∧ bitAt (bitN (flagL f)) 3 = f.par ∧ bitAt (bitN (flagL f)) 4 = f.met ∧ bitN (flagL f) < 32 := by
  exact bit_five f.hid f.dir f.del f.par f.met
theorem decF_enc (f : Ent) (loc : Int) (rest : List UInt8) (h : entOk f = true) (hloc : 0 ≤ loc ∧ loc < 4294967296) : decF (summed (tagHead 257 1 loc (fidBody f)) ++ fidBody f ++ rest) loc = some (f, sizeN f) := by
  obtain ⟨hb1, hb2, hb3, hb4, hb5⟩ := fidBody_len f h
  have hn := nameS_le f h
  have hk := h
  unfold entOk at hk
  rw [Bool.and_eq_true] at hk
  obtain ⟨hr, hno⟩ := hk
  have hr0 := hr
  simp only [rangeB, wordB, Bool.and_eq_true, Bool.not_eq_true', decide_eq_true_eq, decide_eq_false_iff_not] at hr
  obtain ⟨⟨r1, r2⟩, r3, r4, r5, r6⟩ := hr
  rw [tagZ_eq, List.append_assoc]
  obtain ⟨t1, t2⟩ := tag_more 257 1 loc (fidBody f) rest (by omega) hloc (by omega)
  have hT : (tagZ 257 1 loc (fidBody f)).length = 16 := tagZ_len _ _ _ _
  generalize hTT : tagZ 257 1 loc (fidBody f) = T at t1 t2 hT
  clear hTT
  have hs : (T ++ (fidBody f ++ rest)).length = sizeN f + rest.length := by rw [List.length_append, List.length_append, hT, hb1]; omega
  have htag : tagF (T ++ (fidBody f ++ rest)) loc = true := by unfold tagF; rw [t1, t2]; rfl
  obtain ⟨f0, f1, f2, f3, f4, f5⟩ := bit_flag f
  have p18 : readN (partOf (T ++ (fidBody f ++ rest)) 18 1) = bitN (flagL f) := by
    have q : partOf (fidBody f ++ rest) 2 1 = leN 1 (bitN (flagL f)) := rfl
    rw [part_skip T _ hT 18 2 1 rfl, q]
    have := rd1 (bitN (flagL f)) (by omega) (by omega)
    omega
  have p19 : lenF (T ++ (fidBody f ++ rest)) = (nameS f).length := by
    have q : partOf (fidBody f ++ rest) 3 1 = leN 1 (nameS f).length := rfl
    rw [lenF, part_skip T _ hT 19 3 1 rfl, q]
    have := rd1 (nameS f).length (by omega) (by omega)
    omega
  have p24 : (readN (partOf (T ++ (fidBody f ++ rest)) 24 4) : Int) = f.blk := by
    have q : partOf (fidBody f ++ rest) 8 4 = leN 4 f.blk := rfl
    rw [part_skip T _ hT 24 8 4 rfl, q]
    exact rd4 _ r1 r2
  have p28 : (readN (partOf (T ++ (fidBody f ++ rest)) 28 2) : Int) = f.prt := by
    have q : partOf (fidBody f ++ rest) 12 2 = leN 2 f.prt := rfl
    rw [part_skip T _ hT 28 12 2 rfl, q]
    exact rd2 _ (by omega) (by omega)
  have p32 : (readN (partOf (T ++ (fidBody f ++ rest)) 32 4) : Int) = f.uniq := by
    have q : partOf (fidBody f ++ rest) 16 4 = leN 4 f.uniq := rfl
    rw [part_skip T _ hT 32 16 4 rfl, q]
    exact rd4 _ r5 r6
  have p36 : useF (T ++ (fidBody f ++ rest)) = 0 := by
    have q : partOf (fidBody f ++ rest) 20 2 = leN 2 0 := rfl
    rw [useF, part_skip T _ hT 36 20 2 rfl, q]
    rfl
  have hend : endF (T ++ (fidBody f ++ rest)) = 38 + (nameS f).length := by unfold endF; rw [p36, p19]
  have hrd : roundN (endF (T ++ (fidBody f ++ rest))) = sizeN f := by rw [hend]; rfl
  have hname : nameF (T ++ (fidBody f ++ rest)) = nameS f := by
    have hd : (T ++ (fidBody f ++ rest)).drop 38 = (nameS f ++ List.replicate (sizeN f - 38 - (nameS f).length) 0) ++ rest := by
      rw [List.drop_append, List.drop_of_length_le (by omega), List.nil_append, hT]
      rfl
    unfold nameF
    rw [p36, hend, Nat.add_zero, List.drop_take, hd, Nat.add_sub_cancel_left, List.append_assoc, List.take_append_of_le_length (Nat.le_refl _), List.take_length]
  have hnm : expS (nameS f) = f.name ∧ expE (nameS f) = 0 := by
    unfold nameOk at hno
    cases hp : f.par with
    | true =>
      rw [if_pos hp, Bool.and_eq_true] at hno
      have e1 : nameS f = [] := by unfold nameS; rw [if_pos hr0, if_pos hp]
      have e2 : f.name = [] := by simpa using hno.2
      rw [e1, e2]; exact ⟨rfl, rfl⟩
    | false =>
      rw [if_neg (by rw [hp]; decide)] at hno
      simp only [Bool.and_eq_true, decide_eq_true_eq] at hno
      have e1 : nameS f = comS f.name := by unfold nameS; rw [if_pos hr0, if_neg (by rw [hp]; decide)]
      have e3 : f.name ≠ [] := by
        intro hc
        have := hno.2.1
        rw [hc] at this
        simp at this
      obtain ⟨x1, x2, _⟩ := exp_com f.name hno.1 e3 (by omega)
      rw [e1]; exact ⟨x1, x2⟩
  have hat : atF (T ++ (fidBody f ++ rest)) = f := by
    unfold atF
    rw [hname, p18, f0, f1, f2, f3, f4, p24, p28, p32, hnm.1]
  unfold decF
  rw [if_neg (by rw [htag]; decide), if_neg (by rw [hs]; omega), if_neg (by rw [hrd, hs]; omega), if_neg (by rw [hname, hnm.2]; decide), hat, if_neg (by rw [h]; decide), hrd]
end Go.Proofs.YtjmldlknegbimaaDoor.Sx
