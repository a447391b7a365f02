/- The checksum finds every burst: plain mathematics of the remainder. -/
import Derived.Test.YtgeopgibjmhehaaTC
import Derived.Test.YtgeopgibjmhehaaDecPlain
import Derived.Test.YtgeopgibjmhehaaTM
namespace Go.Proofs.Ytgeopgibjmhehaa
open Go

theorem crcStep_xor (a b : BitVec 32) : crcStep (a ^^^ b) = crcStep a ^^^ crcStep b := by
  unfold crcStep
  rw [BitVec.shiftLeft_xor_distrib, BitVec.msb_xor]
  have hp : (517762881#32 ^^^ 517762881#32 : BitVec 32) = 0#32 := rfl
  cases a.msb <;> cases b.msb
  · simp
  · show a <<< 1 ^^^ b <<< 1 ^^^ 517762881#32 = (a <<< 1 ^^^ 0#32) ^^^ (b <<< 1 ^^^ 517762881#32)
    rw [BitVec.xor_zero]; ac_rfl
  · show a <<< 1 ^^^ b <<< 1 ^^^ 517762881#32 = (a <<< 1 ^^^ 517762881#32) ^^^ (b <<< 1 ^^^ 0#32)
    rw [BitVec.xor_zero]; ac_rfl
  · show a <<< 1 ^^^ b <<< 1 ^^^ 0#32 = (a <<< 1 ^^^ 517762881#32) ^^^ (b <<< 1 ^^^ 517762881#32)
    rw [show a <<< 1 ^^^ 517762881#32 ^^^ (b <<< 1 ^^^ 517762881#32) = (a <<< 1 ^^^ b <<< 1) ^^^ (517762881#32 ^^^ 517762881#32) by ac_rfl, hp]
theorem crcStep_zero : crcStep 0#32 = 0#32 := rfl
theorem crcStep_inj (a : BitVec 32) (h : crcStep a = 0#32) : a = 0#32 := by
  unfold crcStep at h
  cases hm : a.msb
  · rw [hm] at h
    simp at h
    apply BitVec.eq_of_getLsbD_eq
    intro i hi
    rw [BitVec.getLsbD_zero]
    by_cases h31 : i = 31
    · subst h31
      rw [BitVec.msb_eq_getLsbD_last] at hm
      simpa using hm
    · have := congrArg (fun x => x.getLsbD (i + 1)) h
      simp [BitVec.getLsbD_shiftLeft] at this
      exact this (by omega)
  · rw [hm] at h
    simp at h
    have := congrArg (fun x => x.getLsbD 0) h
    simp at this
theorem crcSteps_xor (n : Nat) (a b : BitVec 32) : crcSteps n (a ^^^ b) = crcSteps n a ^^^ crcSteps n b := by
  induction n with
  | zero => rfl
  | succ n ih => rw [crcSteps, crcSteps, crcSteps, ih, crcStep_xor]
theorem crcSteps_zero (n : Nat) : crcSteps n 0#32 = 0#32 := by
  induction n with
  | zero => rfl
  | succ n ih => rw [crcSteps, ih]; rfl
theorem crcSteps_inj (n : Nat) (a : BitVec 32) (h : crcSteps n a = 0#32) : a = 0#32 := by
  induction n with
  | zero => exact h
  | succ n ih => exact ih (crcStep_inj _ h)
theorem crcSteps_succ (n : Nat) (a : BitVec 32) : crcSteps (n + 1) a = crcSteps n (crcStep a) := by
  induction n with
  | zero => rfl
  | succ n ih => rw [crcSteps, ih, crcSteps]

/-- One bit comes in. -/
def top (b : Bool) : BitVec 32 := if b then 0x80000000#32 else 0#32
def feed (r : BitVec 32) (b : Bool) : BitVec 32 := crcStep (r ^^^ top b)
def feeds (r : BitVec 32) (l : List Bool) : BitVec 32 := l.foldl feed r
theorem top_xor (a b : Bool) : top (a ^^ b) = top a ^^^ top b := by cases a <;> cases b <;> rfl
theorem feeds_append (r : BitVec 32) (a b : List Bool) : feeds r (a ++ b) = feeds (feeds r a) b := List.foldl_append
theorem feeds_xor : ∀ (a b : List Bool) (r q : BitVec 32), a.length = b.length → feeds (r ^^^ q) (List.zipWith (· ^^ ·) a b) = feeds r a ^^^ feeds q b
  | [], [], _, _, _ => rfl
  | x :: a, y :: b, r, q, h => by
    show feeds (feed (r ^^^ q) (x ^^ y)) (List.zipWith (· ^^ ·) a b) = feeds (feed r x) a ^^^ feeds (feed q y) b
    have e : feed (r ^^^ q) (x ^^ y) = feed r x ^^^ feed q y := by
      unfold feed
      rw [← crcStep_xor, top_xor]
      congr 1
      ac_rfl
    rw [e]
    exact feeds_xor a b _ _ (by simpa using h)
  | [], _ :: _, _, _, h => by simp at h
  | _ :: _, [], _, _, h => by simp at h
theorem feeds_zeros (n : Nat) (r : BitVec 32) : feeds r (List.replicate n false) = crcSteps n r := by
  induction n generalizing r with
  | zero => rfl
  | succ n ih =>
    rw [List.replicate_succ, crcSteps_succ]
    show feeds (feed r false) _ = _
    rw [ih]
    unfold feed top
    simp
theorem crcStep_word (v : BitVec 32) : crcStep v = crcStep (top v.msb) ^^^ (v <<< 1) := by
  unfold crcStep top
  cases v.msb
  · simp
  · simp [BitVec.xor_comm]
    rfl
/-- The first n bits of a word come in, the other ones being 0. -/
theorem feeds_word (n : Nat) : ∀ (v r : BitVec 32), v <<< n = 0#32 → feeds r ((List.range n).map v.getMsbD) = crcSteps n (r ^^^ v) := by
  induction n with
  | zero =>
    intro v r h
    rw [BitVec.shiftLeft_zero] at h
    subst h
    simp [feeds, crcSteps]
  | succ n ih =>
    intro v r h
    have hs : (v <<< 1) <<< n = 0#32 := by rw [← BitVec.shiftLeft_add, Nat.add_comm]; exact h
    have hm : ((List.range (n + 1)).map v.getMsbD) = v.msb :: ((List.range n).map (v <<< 1).getMsbD) := by
      rw [List.range_succ_eq_map, List.map_cons, List.map_map]
      congr 1
      apply List.map_congr_left
      intro i _
      simp [BitVec.getMsbD_shiftLeft]
    rw [hm, crcSteps_succ]
    show feeds (feed r v.msb) _ = _
    rw [ih _ _ hs]
    congr 1
    unfold feed
    rw [crcStep_xor r v, crcStep_word v, crcStep_xor, BitVec.xor_assoc]
/-- The word of 32 given bits. -/
def wordN (g : Nat → Bool) : Nat → BitVec 32
  | 0 => 0#32
  | n + 1 => wordN g n ||| (if g n then BitVec.twoPow 32 (31 - n) else 0#32)
theorem wordN_bit (g : Nat → Bool) (i : Nat) (hi : i < 32) : ∀ n, n ≤ 32 → (wordN g n).getMsbD i = (decide (i < n) && g i)
  | 0, _ => by simp [wordN]
  | n + 1, hn => by
    rw [wordN, BitVec.getMsbD_or, wordN_bit g i hi n (by omega)]
    have hb : (if g n then BitVec.twoPow 32 (31 - n) else 0#32).getMsbD i = (decide (i = n) && g i) := by
      by_cases hg : g n = true
      · rw [if_pos hg, BitVec.getMsbD_eq_getLsbD, BitVec.getLsbD_twoPow, decide_eq_true hi, Bool.true_and]
        by_cases hin : i = n
        · subst hin
          rw [hg, decide_eq_true (by omega), decide_eq_true (by omega), decide_eq_true rfl]
        · rw [decide_eq_false (by omega : ¬ 31 - n = 32 - 1 - i), decide_eq_false hin]; simp
      · rw [if_neg hg]
        by_cases hin : i = n
        · subst hin
          have : g i = false := by simpa using hg
          rw [this]; simp
        · rw [decide_eq_false hin]; simp
    rw [hb, show decide (i < n + 1) = (decide (i < n) || decide (i = n)) by (rw [Bool.eq_iff_iff]; simp; omega)]
    cases decide (i < n) <;> cases decide (i = n) <;> cases g i <;> rfl
/-- Bits that differ from 0 within 32 places only leave a register that is not 0. -/
theorem window_zero (e : List Bool) (k : Nat) (h : ∀ i : Nat, i < k ∨ k + 32 ≤ i → e[i]?.getD false = false) (hz : feeds 0#32 e = 0#32) : ∀ i : Nat, e[i]?.getD false = false := by
  obtain ⟨v, hv⟩ : ∃ v : BitVec 32, ∀ i, i < 32 → v.getMsbD i = e[k + i]?.getD false := by
    refine ⟨wordN (fun i => e[k + i]?.getD false) 32, fun i hi => ?_⟩
    rw [wordN_bit _ i hi 32 (Nat.le_refl _), decide_eq_true hi, Bool.true_and]
  have hall : e ++ List.replicate (k + 32) false = List.replicate k false ++ (((List.range 32).map v.getMsbD) ++ List.replicate e.length false) := by
    apply List.ext_getElem?
    intro i
    have hL : (e ++ List.replicate (k + 32) false)[i]? = if i < e.length + (k + 32) then some (e[i]?.getD false) else none := by
      rw [List.getElem?_append]
      by_cases h1 : i < e.length
      · rw [if_pos h1, if_pos (by omega), List.getElem?_eq_getElem h1]; rfl
      · rw [if_neg h1, List.getElem?_replicate]
        by_cases h2 : i < e.length + (k + 32)
        · rw [if_pos (by omega), if_pos h2, List.getElem?_eq_none (by omega)]; rfl
        · rw [if_neg (by omega), if_neg h2]
    have hR : (List.replicate k false ++ (((List.range 32).map v.getMsbD) ++ List.replicate e.length false))[i]? = if i < e.length + (k + 32) then some (e[i]?.getD false) else none := by
      rw [List.getElem?_append, List.length_replicate]
      by_cases h1 : i < k
      · rw [if_pos h1, if_pos (by omega), List.getElem?_replicate, if_pos h1, h i (Or.inl h1)]
      · rw [if_neg h1, List.getElem?_append, List.length_map, List.length_range]
        by_cases h2 : i - k < 32
        · rw [if_pos h2, if_pos (by omega), List.getElem?_map, List.getElem?_range h2]
          simp only [Option.map_some]
          rw [hv _ h2, show k + (i - k) = i by omega]
        · rw [if_neg h2, List.getElem?_replicate]
          by_cases h3 : i < e.length + (k + 32)
          · rw [if_pos (by omega), if_pos h3, h i (Or.inr (by omega))]
          · rw [if_neg (by omega), if_neg h3]
    rw [hL, hR]
  have hf := congrArg (feeds 0#32) hall
  rw [feeds_append, hz, feeds_zeros, crcSteps_zero, feeds_append, feeds_zeros, crcSteps_zero, feeds_append, feeds_zeros, feeds_word 32 v _ (by simp)] at hf
  have hv0 : v = 0#32 := by
    have := crcSteps_inj _ _ (crcSteps_inj _ _ hf.symm)
    simpa using this
  intro i
  by_cases hi : i < k ∨ k + 32 ≤ i
  · exact h i hi
  · have := hv (i - k) (by omega)
    rw [hv0, show k + (i - k) = i by omega] at this
    simpa using this.symm
end Go.Proofs.Ytgeopgibjmhehaa

/- Sealed strings of 36 bytes that differ within 32 bits only are equal. -/
namespace Go.Proofs.Ytgeopgibjmhehaa
open Go

def byteBits (c : UInt8) : List Bool := (List.range 8).map fun i => c.toNat.testBit (7 - i)
def bitsOf (l : List UInt8) : List Bool := l.flatMap byteBits
theorem byte_word (c : UInt8) (i : Nat) (hi : i < 8) : (c.toBitVec.setWidth 32 <<< 24 : BitVec 32).getMsbD i = c.toNat.testBit (7 - i) := by
  rw [BitVec.getMsbD_eq_getLsbD, BitVec.getLsbD_shiftLeft, BitVec.getLsbD_setWidth]
  rw [decide_eq_true (by omega : i < 32), decide_eq_true (by omega : 32 - 1 - i < 32), decide_eq_false (by omega : ¬ 32 - 1 - i < 24), decide_eq_true (by omega : 32 - 1 - i - 24 < 32)]
  simp only [Bool.true_and, Bool.not_false]
  rw [show 32 - 1 - i - 24 = 7 - i by omega]
  rfl
theorem crcByte_feeds (r : BitVec 32) (c : UInt8) : crcByte r c = feeds r (byteBits c) := by
  have hz : (c.toBitVec.setWidth 32 <<< 24 : BitVec 32) <<< 8 = 0#32 := by
    rw [← BitVec.shiftLeft_add]
    exact BitVec.shiftLeft_eq_zero (by omega)
  have hb : (List.range 8).map (c.toBitVec.setWidth 32 <<< 24 : BitVec 32).getMsbD = byteBits c := List.map_congr_left fun i hi => byte_word c i (by simpa using hi)
  have := feeds_word 8 (c.toBitVec.setWidth 32 <<< 24) r hz
  rw [hb] at this
  exact this.symm
theorem crc_feeds_from (l : List UInt8) : ∀ r, l.foldl crcByte r = feeds r (bitsOf l) := by
  induction l with
  | nil => intro r; rfl
  | cons c l ih => intro r; rw [List.foldl_cons, ih, crcByte_feeds]; show feeds (feeds r (byteBits c)) (bitsOf l) = feeds r (byteBits c ++ bitsOf l); rw [feeds_append]
theorem crc_feeds (l : List UInt8) : crc l = feeds 0xffffffff#32 (bitsOf l) := crc_feeds_from l _
theorem byteBits_length (c : UInt8) : (byteBits c).length = 8 := by simp [byteBits]
theorem bitsOf_length (l : List UInt8) : (bitsOf l).length = 8 * l.length := by
  induction l with
  | nil => rfl
  | cons c l ih => show (byteBits c ++ bitsOf l).length = _; rw [List.length_append, byteBits_length, ih, List.length_cons]; omega
theorem bitsOf_get (l : List UInt8) : ∀ i, i < 8 * l.length → (bitsOf l)[i]? = some (bitAt l i) := by
  induction l with
  | nil => intro i h; simp at h
  | cons c l ih =>
    intro i h
    show (byteBits c ++ bitsOf l)[i]? = _
    rw [List.getElem?_append, byteBits_length]
    by_cases h8 : i < 8
    · rw [if_pos h8]
      have h0 : i / 8 = 0 := by omega
      have h1 : i % 8 = i := by omega
      unfold byteBits bitAt
      rw [List.getElem?_map, List.getElem?_range h8, h0, h1]; rfl
    · rw [if_neg h8, ih (i - 8) (by rw [List.length_cons] at h; omega)]
      unfold bitAt
      rw [show i / 8 = (i - 8) / 8 + 1 by omega, show (i - 8) % 8 = i % 8 by omega]; rfl
theorem big4 (x : Int) : big 4 x = [byteOf (x / 256 / 256 / 256), byteOf (x / 256 / 256), byteOf (x / 256), byteOf x] := rfl
theorem byteOf_test (n k j : Nat) (hj : j < 8) (d : Int) (hd : d = ((n / 2 ^ k : Nat) : Int)) : (byteOf d).toNat.testBit j = n.testBit (k + j) := by
  have h : ((byteOf d).toNat : Int) = d % 256 := byteOf_toNat d
  have h3 : d % 256 = ((n / 2 ^ k % 256 : Nat) : Int) := by rw [hd]; omega
  have h2 : (byteOf d).toNat = n / 2 ^ k % 256 := by omega
  rw [h2, show 256 = 2 ^ 8 from rfl, Nat.testBit_mod_two_pow, decide_eq_true hj, Bool.true_and, Nat.testBit_div_two_pow, Nat.add_comm]
theorem bits_big (v : BitVec 32) : bitsOf (big 4 (v.toNat : Int)) = (List.range 32).map v.getMsbD := by
  apply List.ext_getElem?
  intro i
  by_cases hi : i < 32
  · rw [bitsOf_get _ i (by rw [big_length]; exact hi), List.getElem?_map, List.getElem?_range hi]
    simp only [Option.map_some]
    congr 1
    rw [BitVec.getMsbD_eq_getLsbD, decide_eq_true hi, Bool.true_and]
    unfold BitVec.getLsbD
    rw [big4]
    unfold bitAt
    have hc : i / 8 = 0 ∨ i / 8 = 1 ∨ i / 8 = 2 ∨ i / 8 = 3 := by omega
    have e1 : ((v.toNat : Int) / 256) = ((v.toNat / 2 ^ 8 : Nat) : Int) := by omega
    have e2 : ((v.toNat : Int) / 256 / 256) = ((v.toNat / 2 ^ 16 : Nat) : Int) := by omega
    have e3 : ((v.toNat : Int) / 256 / 256 / 256) = ((v.toNat / 2 ^ 24 : Nat) : Int) := by omega
    rcases hc with h | h | h | h <;> rw [h]
    · show (byteOf _).toNat.testBit _ = _
      rw [byteOf_test v.toNat 24 _ (by omega) _ e3]; congr 1; omega
    · show (byteOf _).toNat.testBit _ = _
      rw [byteOf_test v.toNat 16 _ (by omega) _ e2]; congr 1; omega
    · show (byteOf _).toNat.testBit _ = _
      rw [byteOf_test v.toNat 8 _ (by omega) _ e1]; congr 1; omega
    · show (byteOf _).toNat.testBit _ = _
      rw [byteOf_test v.toNat 0 _ (by omega) _ (by simp)]; congr 1; omega
  · rw [List.getElem?_eq_none (by rw [bitsOf_length, big_length]; omega), List.getElem?_eq_none (by simp; omega)]
theorem bitsOf_append (a b : List UInt8) : bitsOf (a ++ b) = bitsOf a ++ bitsOf b := by simp [bitsOf]
/-- All bits of a sealed string leave the register 0. -/
theorem sealed_zero (m : List UInt8) : feeds 0xffffffff#32 (bitsOf (sealL m)) = 0#32 := by
  unfold sealL
  rw [bitsOf_append, feeds_append, ← crc_feeds, bits_big, feeds_word 32 _ _ (by simp), BitVec.xor_self, crcSteps_zero]
theorem bytes_of_bits (l l' : List UInt8) (hl : l.length = l'.length) (h : ∀ i, i < 8 * l.length → bitAt l i = bitAt l' i) : l = l' := by
  apply List.ext_getElem hl
  intro k h1 h2
  apply UInt8.toNat_inj.1
  apply Nat.eq_of_testBit_eq
  intro j
  by_cases hj : j < 8
  · have := h (8 * k + (7 - j)) (by omega)
    unfold bitAt at this
    rw [show (8 * k + (7 - j)) / 8 = k by omega, show 7 - (8 * k + (7 - j)) % 8 = j by omega, List.getD_eq_getElem?_getD, List.getD_eq_getElem?_getD, List.getElem?_eq_getElem h1, List.getElem?_eq_getElem h2] at this
    exact this
  · have b1 : l[k].toNat < 2 ^ j := Nat.lt_of_lt_of_le l[k].toNat_lt (Nat.pow_le_pow_right (by omega) (by omega))
    have b2 : l'[k].toNat < 2 ^ j := Nat.lt_of_lt_of_le l'[k].toNat_lt (Nat.pow_le_pow_right (by omega) (by omega))
    rw [Nat.testBit_lt_two_pow b1, Nat.testBit_lt_two_pow b2]
theorem burst_eq (l l' : List UInt8) (h : l.length = 36) (h' : l'.length = 36) (hs : sealL (l.take 32) = l) (hs' : sealL (l'.take 32) = l') (k : Nat)
    (hw : ∀ i, i < 288 → (i < k ∨ k + 32 ≤ i) → bitAt l i = bitAt l' i) : l = l' := by
  have hlen : (bitsOf l).length = (bitsOf l').length := by rw [bitsOf_length, bitsOf_length, h, h']
  have hz := feeds_xor (bitsOf l) (bitsOf l') 0xffffffff#32 0xffffffff#32 hlen
  rw [BitVec.xor_self] at hz
  have z1 : feeds 0xffffffff#32 (bitsOf l) = 0#32 := by rw [← hs]; exact sealed_zero _
  have z2 : feeds 0xffffffff#32 (bitsOf l') = 0#32 := by rw [← hs']; exact sealed_zero _
  rw [z1, z2, BitVec.xor_self] at hz
  have he : ∀ i : Nat, (List.zipWith (· ^^ ·) (bitsOf l) (bitsOf l'))[i]?.getD false = if i < 288 then (bitAt l i ^^ bitAt l' i) else false := by
    intro i
    by_cases hi : i < 288
    · rw [if_pos hi, List.getElem?_zipWith, bitsOf_get l i (by omega), bitsOf_get l' i (by omega)]; rfl
    · rw [if_neg hi, List.getElem?_eq_none (by rw [List.length_zipWith, bitsOf_length, bitsOf_length]; omega)]; rfl
  have hall := window_zero _ k (fun i hi => by
    rw [he i]
    by_cases h2 : i < 288
    · rw [if_pos h2, hw i h2 hi, Bool.xor_self]
    · rw [if_neg h2]) hz
  refine bytes_of_bits l l' (by rw [h, h']) (fun i hi => ?_)
  have := hall i
  rw [he i, if_pos (by omega)] at this
  revert this
  cases bitAt l i <;> cases bitAt l' i <;> simp

/-- A flip within 32 bits of the sector of a valid piece is found. -/
theorem flip_found (v f s g ve : Int) (d : List UInt8) (hv : validB v f s g ve d.length = true) (bit : Nat) (m : BitVec 32) (hb : bit < 288) (hne : flipL (encL v f s g ve d) bit m 32 ≠ encL v f s g ve d) :
    errOf (flipL (encL v f s g ve d) bit m 32) = 103 := by
  obtain ⟨h0, _, _, _, _, hver, _⟩ := dec_enc v f s g ve d hv
  obtain ⟨hl, _, hE⟩ := enc_dec _ h0
  have hbd := hv
  simp only [validB, decide_eq_true_eq] at hbd
  obtain ⟨_, _, _, _, _, _, _, _, e0, _, hd⟩ := hbd
  have hbits : ∀ i, i < 288 → (i < bit ∨ bit + 32 ≤ i) → bitAt (encL v f s g ve d) i = bitAt (flipL (encL v f s g ve d) bit m 32) i := by
    intro i hi hout
    rw [bitAt_flipL _ bit m i (by rw [hl]; omega) 32 (Nat.le_refl _), decide_eq_false (by omega), Bool.false_and, Bool.xor_false]
  have hfl : (flipL (encL v f s g ve d) bit m 32).length = 36 := by rw [flipL_length, hl]
  have hseal : sealL ((encL v f s g ve d).take 32) = encL v f s g ve d := by
    have ht : (encL v f s g ve d).take 32 = headL v f s g ve d := by
      unfold encL sealL
      rw [List.take_append_of_le_length (by rw [headL_length _ _ _ _ _ _ hd]; omega), List.take_of_length_le (by rw [headL_length _ _ _ _ _ _ hd]; omega)]
    rw [ht]; rfl
  refine err_sum _ hfl ?_ ?_
  · intro hz
    have hzero : ∀ i, bitAt (zeros 36) i = false := by
      intro i
      unfold bitAt zeros
      rw [List.getD_eq_getElem?_getD, List.getElem?_replicate]
      split <;> simp
    have hb1 : bit ≤ 1 := by
      apply Decidable.byContradiction
      intro hgt
      have := hbits 1 (by omega) (Or.inl (by omega))
      rw [hz, hzero] at this
      exact absurd this (by unfold bitAt; show (93 : UInt8).toNat.testBit 6 ≠ false; decide)
    have hlow : ∀ k, 9 ≤ k → k < 14 → (encL v f s g ve d).getD k 0 = 0 := by
      intro k h1 h2
      have e : (encL v f s g ve d).getD k 0 = (encL v f s g ve d)[k]'(by omega) := by rw [List.getD_eq_getElem?_getD, List.getElem?_eq_getElem (by omega)]; rfl
      apply UInt8.toNat_inj.1
      apply Nat.eq_of_testBit_eq
      intro j
      show _ = Nat.testBit 0 j
      rw [Nat.zero_testBit]
      by_cases hj : j < 8
      · have := hbits (8 * k + (7 - j)) (by omega) (Or.inr (by omega))
        rw [hz, hzero] at this
        unfold bitAt at this
        rw [show (8 * k + (7 - j)) / 8 = k by omega, show 7 - (8 * k + (7 - j)) % 8 = j by omega] at this
        exact this
      · exact Nat.testBit_lt_two_pow (Nat.lt_of_lt_of_le ((encL v f s g ve d).getD k 0).toNat_lt (Nat.pow_le_pow_right (by omega) (by omega)))
    have hver0 : fVer (encL v f s g ve d) = 0 := by
      have : ((encL v f s g ve d).drop 9).take 5 = [0, 0, 0, 0, 0] := by
        apply List.ext_getElem
        · simp; omega
        · intro k h1 h2
          have hk : k < 5 := by simpa using h2
          have := hlow (9 + k) (by omega) (by omega)
          rw [List.getD_eq_getElem?_getD, List.getElem?_eq_getElem (by omega)] at this
          simp only [Option.getD_some] at this
          rw [List.getElem_take, List.getElem_drop, this]
          rcases k with _ | _ | _ | _ | _ | k <;> first | rfl | omega
      unfold fVer
      rw [this]; rfl
    omega
  · cases hsb : sumB (flipL (encL v f s g ve d) bit m 32)
    · rfl
    · exact absurd (burst_eq _ _ hl hfl hseal ((sealed_iff _ hfl).2 hsb) bit hbits).symm hne
end Go.Proofs.Ytgeopgibjmhehaa

/- ScrubDetects: a flip of a piece that was written. -/
namespace Go.Proofs.Ytgeopgibjmhehaa
open Go Go.RowKit Go.Sort

theorem Fine.putx {S : Dv} {n m : Nat} {t : Int} (h : Fine S n m t) (s : Int) (x : Sec) (hx : x.data.size = 36) : Fine (S.put s x) n m t :=
  ⟨h.ok.put s x hx, h.claim, by show (S.secs.set _ _).length = m; rw [List.length_set, h.real], h.on, h.pend, h.term⟩
theorem Fine.get {S : Dv} {n m : Nat} {t : Int} (h : Fine S n m t) (k : Nat) {x : Sec} (hx : S.secs[k % m]? = some x) : S.get k = x := by
  unfold Dv.get Dv.at_
  rw [h.real, show ((k : Int) % (m : Int)).toNat = k % m by omega, List.getD_eq_getElem?_getD, hx]
  rfl
theorem Fine.dead {S : Dv} {n m : Nat} {t : Int} (h : Fine S n m t) : S.dead = false := by
  have := h.on
  unfold Dv.online at this
  cases hx : S.dead
  · rfl
  · rw [hx] at this; simp at this
theorem inject_flip {S : Dv} {n m : Nat} {t : Int} (h : Fine S n m t) (k : Nat) (hk : k < n) {x : Sec} (hx : S.secs[k % m]? = some x) (b ma : Int) (hb0 : 0 ≤ b) (hb1 : b < 288) (hm0 : 1 ≤ ma) (hm1 : ma ≤ 4294967295) :
    S.inject ⟨4, k, b, ma, 0⟩ = (0, S.put k (x.flip b ma)) := by
  unfold Dv.inject
  have hv : Dv.valid S.claim ⟨4, k, b, ma, 0⟩ = true := by
    have := h.claim
    unfold Dv.valid
    rw [if_neg (by simp), if_neg (by simp), if_pos rfl, decide_eq_true_eq]
    dsimp only
    omega
  rw [if_neg (by rw [hv]; simp), if_neg (by rw [h.dead]; simp)]
  unfold Dv.happen
  rw [if_neg (by simp), if_neg (by simp), if_neg (by simp), if_pos rfl]
  dsimp only
  rw [h.get k hx]
theorem inv_lone (S : Dv) (k : Nat) : ∀ n, (∀ j : Nat, j < n → j ≠ k → held1 S (j : Int) = []) → inv S n = if k < n then held1 S (k : Int) else []
  | 0, _ => by simp [inv]
  | n + 1, h => by
    rw [inv_succ, inv_lone S k n (fun j h1 h2 => h j (by omega) h2)]
    by_cases hk : k < n
    · rw [if_pos hk, if_pos (by omega), h n (by omega) (by omega), List.append_nil]
    · rw [if_neg hk, List.nil_append]
      by_cases he : k = n
      · subst he; rw [if_pos (by omega)]
      · rw [if_neg (by omega)]
        exact h n (by omega) (fun e => he e.symm)
theorem held1_blank {S : Dv} {s : Int} (h : S.read s = (blank, 0)) : held1 S s = [] := by
  unfold held1
  rw [h, if_neg]
  rintro ⟨_, e⟩
  rw [err_blank_sec] at e
  omega
theorem held1_err {S : Dv} {s : Int} {x : ByteArray} (h : S.read s = (x, 0)) (he : errOf x.data.toList ≠ 0) : held1 S s = [] := by
  unfold held1
  rw [h, if_neg]
  rintro ⟨_, e⟩
  exact he e
theorem held1_ok {S : Dv} {s : Int} {x : ByteArray} (h : S.read s = (x, 0)) (he : errOf x.data.toList = 0) : (held1 S s).length = 1 := by
  unfold held1
  rw [h, if_pos ⟨rfl, he⟩]
  rfl
theorem flipD_found {p : Pc} (hp : p.ok = true) (b ma : Int) (hb0 : 0 ≤ b) (hb1 : b < 288) (hne : flipD (encP p) b ma ≠ encP p) : errOf (flipD (encP p) b ma).data.toList = 103 := by
  have hv2 : validB p.vol p.frag p.stripe p.gen p.ver p.data.data.toList.length = true := by rw [Array.length_toList]; exact hp
  have hl : (encP p).data.toList = encL p.vol p.frag p.stripe p.gen p.ver p.data.data.toList := by unfold encP; simp
  unfold flipD at hne ⊢
  rw [hl] at hne ⊢
  refine flip_found _ _ _ _ _ _ hv2 _ _ (by omega) (fun e => hne ?_)
  rw [e]
  rfl
/-- All that the law sees. -/
structure Flipped (p : Pc) (k : Nat) (b ma : Int) (S1 S2 S3 : Dv) : Prop where
  w1 : (newDv 10 10).write 0 k (encP p) = (0, S1)
  ok1 : S1.Ok
  p1 : S1.pend = []
  good1 : isGood (stateOf S1 ⟨k, p⟩) = true
  inj : S1.inject ⟨4, k, b, ma, 0⟩ = (0, S2)
  ok2 : S2.Ok
  on2 : S2.online = true
  same : flipD (encP p) b ma = encP p → stateOf S2 ⟨k, p⟩ = 1 ∧ (invOf S2).length = 1
  diff : flipD (encP p) b ma ≠ encP p → stateOf S2 ⟨k, p⟩ = 3 ∧ invOf S2 = []
  w3 : S2.write 0 k (encP p) = (0, S3)
  ok3 : S3.Ok
  good3 : isGood (stateOf S3 ⟨k, p⟩) = true
theorem flipped {p : Pc} (hp : p.ok = true) (k : Nat) (hk : k < 10) (b ma : Int) (hb0 : 0 ≤ b) (hb1 : b < 288) (hm0 : 1 ≤ ma) (hm1 : ma ≤ 4294967295) : ∃ S1 S2 S3, Flipped p k b ma S1 S2 S3 := by
  have hd := encP_size hp
  obtain ⟨S1, e1, f1, r1, q1, hs1⟩ := put_one 10 (by omega) (by omega) k hk hd
  have hx1 : S1.secs[k % 10]? = some ⟨encP p, false, false⟩ := by
    rw [hs1, Nat.mod_eq_of_lt hk]
    show ((newDv 10 10).secs.set k _)[k]? = _
    rw [List.getElem?_set_self (by simp [newDv]; exact hk)]
  have hi := inject_flip f1 k hk hx1 b ma hb0 hb1 hm0 hm1
  have hfl : (Sec.mk (encP p) false false).flip b ma = ⟨flipD (encP p) b ma, false, true⟩ := rfl
  rw [hfl] at hi
  have hfs : (flipD (encP p) b ma).size = 36 := (Dv.flipD_size _ _ _).trans hd
  have f2 := f1.putx k ⟨flipD (encP p) b ma, false, true⟩ hfs
  have hat : S1.at_ k = k := by
    unfold Dv.at_
    rw [f1.real]
    omega
  have r2 : (S1.put k ⟨flipD (encP p) b ma, false, true⟩).read k = (flipD (encP p) b ma, 0) := by
    refine f2.read k hk (x := ⟨flipD (encP p) b ma, false, true⟩) ?_ rfl
    rw [Nat.mod_eq_of_lt hk]
    show (S1.secs.set (S1.at_ k) _)[k]? = _
    rw [hat, List.getElem?_set_self (by rw [f1.real]; exact hk)]
  have q2 : ∀ j : Nat, j < 10 → j ≠ k → (S1.put k ⟨flipD (encP p) b ma, false, true⟩).read j = (blank, 0) := fun j hj hne => by
    refine f2.read j hj (x := blankSec) ?_ rfl
    rw [Nat.mod_eq_of_lt hj]
    show (S1.secs.set (S1.at_ k) _)[j]? = _
    rw [hat, List.getElem?_set_ne (Ne.symm hne), hs1]
    show ((newDv 10 10).secs.set k _)[j]? = _
    rw [List.getElem?_set_ne (Ne.symm hne)]
    show (List.replicate 10 blankSec)[j]? = _
    rw [List.getElem?_replicate, if_pos hj]
  obtain ⟨e3, f3⟩ := f2.write k hk (encP p) hd
  rw [Nat.mod_eq_of_lt hk] at e3 f3
  have r3 : (setAt (S1.put k ⟨flipD (encP p) b ma, false, true⟩) 0 k (encP p)).read k = (encP p, 0) := by
    refine f3.read k hk (x := ⟨encP p, false, false⟩) ?_ rfl
    rw [Nat.mod_eq_of_lt hk]
    show (List.set _ k _)[k]? = _
    rw [List.getElem?_set_self (by have := f2.real; omega)]
  have hinv : invOf (S1.put k ⟨flipD (encP p) b ma, false, true⟩) = held1 (S1.put k ⟨flipD (encP p) b ma, false, true⟩) k := by
    unfold invOf
    rw [if_pos f2.on, show (S1.put k ⟨flipD (encP p) b ma, false, true⟩).claim.toNat = 10 by have := f2.claim; omega, inv_lone _ k 10 (fun j h1 h2 => held1_blank (q2 j h1 h2)), if_pos hk]
  refine ⟨S1, _, _, e1, f1.ok, f1.pend, ?_, hi, f2.ok, f2.on, fun he => ⟨?_, ?_⟩, fun he => ⟨?_, ?_⟩, e3, f3.ok, ?_⟩
  · rw [state_read r1, seen_enc hp]
    simp [found, isGood]
  · rw [state_read r2, he, seen_enc hp]
    simp [found]
  · rw [hinv]
    exact held1_ok r2 (by rw [he]; exact (encP_dec hp).1)
  · rw [state_read r2]
    unfold seen
    rw [flipD_found hp b ma hb0 hb1 he, if_neg (by decide), if_pos (by decide)]
  · rw [hinv]
    exact held1_err r2 (by rw [flipD_found hp b ma hb0 hb1 he]; decide)
  · rw [state_read r3, seen_enc hp]
    simp [found, isGood]
end Go.Proofs.Ytgeopgibjmhehaa
