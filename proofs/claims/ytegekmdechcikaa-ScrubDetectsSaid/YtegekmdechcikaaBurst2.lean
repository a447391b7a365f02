/- Sealed strings of 36 bytes that differ within 32 bits only are equal. -/
import Derived.Test.YtegekmdechcikaaBurst
import Derived.Test.YtegekmdechcikaaDecPlain
namespace Go.Proofs.Ytegekmdechcikaa
open Go

def byteBits (c : UInt8) : List Bool := (List.range 8).map fun i => c.toNat.testBit (7 - i)
def bitsOf (l : List UInt8) : List Bool := l.flatMap byteBits
theorem byte_word (c : UInt8) (i : Nat) (hi : i < 8) : (c.toBitVec.setWidth 32 <<< 24 : BitVec 32).getMsbD i = c.toNat.testBit (7 - i) := by
  rw [BitVec.getMsbD_eq_getLsbD, BitVec.getLsbD_shiftLeft, BitVec.getLsbD_setWidth]
  rw [decide_eq_true (by omega : i < 32), decide_eq_true (by omega : 32 - 1 - i < 32), decide_eq_false (by omega : ¬ 32 - 1 - i < 24), decide_eq_true (by omega : 32 - 1 - i - 24 < 32)]
  simp only [Bool.true_and, Bool.not_false]
  rw [show 32 - 1 - i - 24 = 7 - i by omega]
  rfl
theorem crcByte_feeds (r : BitVec 32) (c : UInt8) : crcByte r c = feeds r (byteBits c) := by
  have hz : (c.toBitVec.setWidth 32 <<< 24 : BitVec 32) <<< 8 = 0#32 := by
    rw [← BitVec.shiftLeft_add]
    exact BitVec.shiftLeft_eq_zero (by omega)
  have hb : (List.range 8).map (c.toBitVec.setWidth 32 <<< 24 : BitVec 32).getMsbD = byteBits c := List.map_congr_left fun i hi => byte_word c i (by simpa using hi)
  have := feeds_word 8 (c.toBitVec.setWidth 32 <<< 24) r hz
  rw [hb] at this
  exact this.symm
theorem crc_feeds_from (l : List UInt8) : ∀ r, l.foldl crcByte r = feeds r (bitsOf l) := by
  induction l with
  | nil => intro r; rfl
  | cons c l ih => intro r; rw [List.foldl_cons, ih, crcByte_feeds]; show feeds (feeds r (byteBits c)) (bitsOf l) = feeds r (byteBits c ++ bitsOf l); rw [feeds_append]
theorem crc_feeds (l : List UInt8) : crc l = feeds 0xffffffff#32 (bitsOf l) := crc_feeds_from l _
theorem byteBits_length (c : UInt8) : (byteBits c).length = 8 := by simp [byteBits]
theorem bitsOf_length (l : List UInt8) : (bitsOf l).length = 8 * l.length := by
  induction l with
  | nil => rfl
  | cons c l ih => show (byteBits c ++ bitsOf l).length = _; rw [List.length_append, byteBits_length, ih, List.length_cons]; omega
theorem bitsOf_get (l : List UInt8) : ∀ i, i < 8 * l.length → (bitsOf l)[i]? = some (bitAt l i) := by
  induction l with
  | nil => intro i h; simp at h
  | cons c l ih =>
    intro i h
    show (byteBits c ++ bitsOf l)[i]? = _
    rw [List.getElem?_append, byteBits_length]
    by_cases h8 : i < 8
    · rw [if_pos h8]
      have h0 : i / 8 = 0 := by omega
      have h1 : i % 8 = i := by omega
      unfold byteBits bitAt
      rw [List.getElem?_map, List.getElem?_range h8, h0, h1]; rfl
    · rw [if_neg h8, ih (i - 8) (by rw [List.length_cons] at h; omega)]
      unfold bitAt
      rw [show i / 8 = (i - 8) / 8 + 1 by omega, show (i - 8) % 8 = i % 8 by omega]; rfl
theorem big4 (x : Int) : big 4 x = [byteOf (x / 256 / 256 / 256), byteOf (x / 256 / 256), byteOf (x / 256), byteOf x] := rfl
theorem byteOf_test (n k j : Nat) (hj : j < 8) (d : Int) (hd : d = ((n / 2 ^ k : Nat) : Int)) : (byteOf d).toNat.testBit j = n.testBit (k + j) := by
  have h : ((byteOf d).toNat : Int) = d % 256 := byteOf_toNat d
  have h3 : d % 256 = ((n / 2 ^ k % 256 : Nat) : Int) := by rw [hd]; omega
  have h2 : (byteOf d).toNat = n / 2 ^ k % 256 := by omega
  rw [h2, show 256 = 2 ^ 8 from rfl, Nat.testBit_mod_two_pow, decide_eq_true hj, Bool.true_and, Nat.testBit_div_two_pow, Nat.add_comm]
theorem bits_big (v : BitVec 32) : bitsOf (big 4 (v.toNat : Int)) = (List.range 32).map v.getMsbD := by
  apply List.ext_getElem?
  intro i
  by_cases hi : i < 32
  · rw [bitsOf_get _ i (by rw [big_length]; exact hi), List.getElem?_map, List.getElem?_range hi]
    simp only [Option.map_some]
    congr 1
    rw [BitVec.getMsbD_eq_getLsbD, decide_eq_true hi, Bool.true_and]
    unfold BitVec.getLsbD
    rw [big4]
    unfold bitAt
    have hc : i / 8 = 0 ∨ i / 8 = 1 ∨ i / 8 = 2 ∨ i / 8 = 3 := by omega
    have e1 : ((v.toNat : Int) / 256) = ((v.toNat / 2 ^ 8 : Nat) : Int) := by omega
    have e2 : ((v.toNat : Int) / 256 / 256) = ((v.toNat / 2 ^ 16 : Nat) : Int) := by omega
    have e3 : ((v.toNat : Int) / 256 / 256 / 256) = ((v.toNat / 2 ^ 24 : Nat) : Int) := by omega
    rcases hc with h | h | h | h <;> rw [h]
    · show (byteOf _).toNat.testBit _ = _
      rw [byteOf_test v.toNat 24 _ (by omega) _ e3]; congr 1; omega
    · show (byteOf _).toNat.testBit _ = _
      rw [byteOf_test v.toNat 16 _ (by omega) _ e2]; congr 1; omega
    · show (byteOf _).toNat.testBit _ = _
      rw [byteOf_test v.toNat 8 _ (by omega) _ e1]; congr 1; omega
    · show (byteOf _).toNat.testBit _ = _
      rw [byteOf_test v.toNat 0 _ (by omega) _ (by simp)]; congr 1; omega
  · rw [List.getElem?_eq_none (by rw [bitsOf_length, big_length]; omega), List.getElem?_eq_none (by simp; omega)]
theorem bitsOf_append (a b : List UInt8) : bitsOf (a ++ b) = bitsOf a ++ bitsOf b := by simp [bitsOf]
/-- All bits of a sealed string leave the register 0. -/
theorem sealed_zero (m : List UInt8) : feeds 0xffffffff#32 (bitsOf (sealL m)) = 0#32 := by
  unfold sealL
  rw [bitsOf_append, feeds_append, ← crc_feeds, bits_big, feeds_word 32 _ _ (by simp), BitVec.xor_self, crcSteps_zero]
theorem bytes_of_bits (l l' : List UInt8) (hl : l.length = l'.length) (h : ∀ i, i < 8 * l.length → bitAt l i = bitAt l' i) : l = l' := by
  apply List.ext_getElem hl
  intro k h1 h2
  apply UInt8.toNat_inj.1
  apply Nat.eq_of_testBit_eq
  intro j
  by_cases hj : j < 8
  · have := h (8 * k + (7 - j)) (by omega)
    unfold bitAt at this
    rw [show (8 * k + (7 - j)) / 8 = k by omega, show 7 - (8 * k + (7 - j)) % 8 = j by omega, List.getD_eq_getElem?_getD, List.getD_eq_getElem?_getD, List.getElem?_eq_getElem h1, List.getElem?_eq_getElem h2] at this
    exact this
  · have b1 : l[k].toNat < 2 ^ j := Nat.lt_of_lt_of_le l[k].toNat_lt (Nat.pow_le_pow_right (by omega) (by omega))
    have b2 : l'[k].toNat < 2 ^ j := Nat.lt_of_lt_of_le l'[k].toNat_lt (Nat.pow_le_pow_right (by omega) (by omega))
    rw [Nat.testBit_lt_two_pow b1, Nat.testBit_lt_two_pow b2]
theorem burst_eq (l l' : List UInt8) (h : l.length = 36) (h' : l'.length = 36) (hs : sealL (l.take 32) = l) (hs' : sealL (l'.take 32) = l') (k : Nat)
    (hw : ∀ i, i < 288 → (i < k ∨ k + 32 ≤ i) → bitAt l i = bitAt l' i) : l = l' := by
  have hlen : (bitsOf l).length = (bitsOf l').length := by rw [bitsOf_length, bitsOf_length, h, h']
  have hz := feeds_xor (bitsOf l) (bitsOf l') 0xffffffff#32 0xffffffff#32 hlen
  rw [BitVec.xor_self] at hz
  have z1 : feeds 0xffffffff#32 (bitsOf l) = 0#32 := by rw [← hs]; exact sealed_zero _
  have z2 : feeds 0xffffffff#32 (bitsOf l') = 0#32 := by rw [← hs']; exact sealed_zero _
  rw [z1, z2, BitVec.xor_self] at hz
  have he : ∀ i : Nat, (List.zipWith (· ^^ ·) (bitsOf l) (bitsOf l'))[i]?.getD false = if i < 288 then (bitAt l i ^^ bitAt l' i) else false := by
    intro i
    by_cases hi : i < 288
    · rw [if_pos hi, List.getElem?_zipWith, bitsOf_get l i (by omega), bitsOf_get l' i (by omega)]; rfl
    · rw [if_neg hi, List.getElem?_eq_none (by rw [List.length_zipWith, bitsOf_length, bitsOf_length]; omega)]; rfl
  have hall := window_zero _ k (fun i hi => by
    rw [he i]
    by_cases h2 : i < 288
    · rw [if_pos h2, hw i h2 hi, Bool.xor_self]
    · rw [if_neg h2]) hz
  refine bytes_of_bits l l' (by rw [h, h']) (fun i hi => ?_)
  have := hall i
  rw [he i, if_pos (by omega)] at this
  revert this
  cases bitAt l i <;> cases bitAt l' i <;> simp

/-- A flip within 32 bits of the sector of a valid piece is found. -/
theorem flip_found (v f s g ve : Int) (d : List UInt8) (hv : validB v f s g ve d.length = true) (bit : Nat) (m : BitVec 32) (hb : bit < 288) (hne : flipL (encL v f s g ve d) bit m 32 ≠ encL v f s g ve d) :
    errOf (flipL (encL v f s g ve d) bit m 32) = 103 := by
  obtain ⟨h0, _, _, _, _, hver, _⟩ := dec_enc v f s g ve d hv
  obtain ⟨hl, _, hE⟩ := enc_dec _ h0
  have hbd := hv
  simp only [validB, decide_eq_true_eq] at hbd
  obtain ⟨_, _, _, _, _, _, _, _, e0, _, hd⟩ := hbd
  have hbits : ∀ i, i < 288 → (i < bit ∨ bit + 32 ≤ i) → bitAt (encL v f s g ve d) i = bitAt (flipL (encL v f s g ve d) bit m 32) i := by
    intro i hi hout
    rw [bitAt_flipL _ bit m i (by rw [hl]; omega) 32 (Nat.le_refl _), decide_eq_false (by omega), Bool.false_and, Bool.xor_false]
  have hfl : (flipL (encL v f s g ve d) bit m 32).length = 36 := by rw [flipL_length, hl]
  have hseal : sealL ((encL v f s g ve d).take 32) = encL v f s g ve d := by
    have ht : (encL v f s g ve d).take 32 = headL v f s g ve d := by
      unfold encL sealL
      rw [List.take_append_of_le_length (by rw [headL_length _ _ _ _ _ _ hd]; omega), List.take_of_length_le (by rw [headL_length _ _ _ _ _ _ hd]; omega)]
    rw [ht]; rfl
  refine err_sum _ hfl ?_ ?_
  · intro hz
    have hzero : ∀ i, bitAt (zeros 36) i = false := by
      intro i
      unfold bitAt zeros
      rw [List.getD_eq_getElem?_getD, List.getElem?_replicate]
      split <;> simp
    have hb1 : bit ≤ 1 := by
      apply Decidable.byContradiction
      intro hgt
      have := hbits 1 (by omega) (Or.inl (by omega))
      rw [hz, hzero] at this
      exact absurd this (by unfold bitAt; show (93 : UInt8).toNat.testBit 6 ≠ false; decide)
    have hlow : ∀ k, 9 ≤ k → k < 14 → (encL v f s g ve d).getD k 0 = 0 := by
      intro k h1 h2
      have e : (encL v f s g ve d).getD k 0 = (encL v f s g ve d)[k]'(by omega) := by rw [List.getD_eq_getElem?_getD, List.getElem?_eq_getElem (by omega)]; rfl
      apply UInt8.toNat_inj.1
      apply Nat.eq_of_testBit_eq
      intro j
      show _ = Nat.testBit 0 j
      rw [Nat.zero_testBit]
      by_cases hj : j < 8
      · have := hbits (8 * k + (7 - j)) (by omega) (Or.inr (by omega))
        rw [hz, hzero] at this
        unfold bitAt at this
        rw [show (8 * k + (7 - j)) / 8 = k by omega, show 7 - (8 * k + (7 - j)) % 8 = j by omega] at this
        exact this
      · exact Nat.testBit_lt_two_pow (Nat.lt_of_lt_of_le ((encL v f s g ve d).getD k 0).toNat_lt (Nat.pow_le_pow_right (by omega) (by omega)))
    have hver0 : fVer (encL v f s g ve d) = 0 := by
      have : ((encL v f s g ve d).drop 9).take 5 = [0, 0, 0, 0, 0] := by
        apply List.ext_getElem
        · simp; omega
        · intro k h1 h2
          have hk : k < 5 := by simpa using h2
          have := hlow (9 + k) (by omega) (by omega)
          rw [List.getD_eq_getElem?_getD, List.getElem?_eq_getElem (by omega)] at this
          simp only [Option.getD_some] at this
          rw [List.getElem_take, List.getElem_drop, this]
          rcases k with _ | _ | _ | _ | _ | k <;> first | rfl | omega
      unfold fVer
      rw [this]; rfl
    omega
  · cases hsb : sumB (flipL (encL v f s g ve d) bit m 32)
    · rfl
    · exact absurd (burst_eq _ _ hl hfl hseal ((sealed_iff _ hfl).2 hsb) bit hbits).symm hne
end Go.Proofs.Ytegekmdechcikaa
