/- The walks of SectorBursts and SectorLinear. -/
import Derived.Test.YtmgghigongjjcaaLawB
import Derived.Test.YtmgghigongjjcaaBurst2
namespace Go.Proofs.Ytmgghigongjjcaa
open Go.RowKit Go.Sort

theorem within_b (x n : Int) (w : World) (h1 : 1 ≤ n) (h2 : n ≤ 4611686018427387904) :
    Calls Try.prog 18 #[.int .i64 x, .int .i64 n] w fun e w' => e = .returned (.int .i64 (x % n)) ∧ Below w.heap.size w w' :=
  (within_any x n w h1 h2).mono fun _ _ ⟨he, hw⟩ => ⟨he, by rw [← hw]; exact Below.refl _ _⟩

set_option maxHeartbeats 2000000 in
theorem law_bursts (v f s g ve : Int) (d : ByteArray) (bit : Int) (m : BitVec 32) (w : World) (hd : d.size ≤ maxLen) :
    Calls Try.prog 9 #[.agg #[.int .i64 v, .int .i64 f, .int .i64 s, .int .i64 g, .int .i64 ve, .string d], .int .i64 bit, .int .u32 (m.toNat : Int)] w fun e w' => e = .returned (.bool true) ∧ Below w.heap.size w w' := by
  have hnv := near_valid v f s g ve (nearB d).length (nearB_length d)
  have HD := hid hd
  clear hd
  obtain ⟨bn, hbn⟩ := Int.eq_ofNat_of_zero_le (Int.emod_nonneg bit (show (288 : Int) ≠ 0 by decide))
  have hbl : bn < 288 := by have := Int.emod_lt_of_pos bit (show (0 : Int) < 288 by decide); omega
  have HBN := hid hbn
  clear hbn
  go_enter Try.func9, Try.ntmps9
  go_wp2_with fail
  refine (near_b _ _ _ _ _ _ _ HD.out).mono ?_
  rintro e w1 ⟨rfl, hb1⟩
  have hw1 : Below w.heap.size w w1 := ((Below.refl _ _).alloc (Nat.le_refl _) _).trans (hb1.mono (by simp))
  clear hb1 HD
  generalize v % 12 = v' at *
  generalize f % 8 = f' at *
  generalize s % 4 = s' at *
  generalize 1 + g % 1099511627775 = g' at *
  generalize 1 + ve % 1099511627775 = ve' at *
  have HFF := hid (flip_found v' f' s' g' ve' (nearB d) hnv bn m hbl)
  have HLE := hid (encL_length v' f' s' g' ve' (nearB d) (nearB_length d))
  have HNV := hid hnv
  clear hnv
  go_wp2_with fail
  refine (enc_prog_yes _ _ _ _ _ _ _ HNV.out).mono ?_
  rintro e w2 ⟨rfl, hb2⟩
  rw [show ({ data := (nearB d).toArray } : ByteArray).data.toList = nearB d from rfl]
  have hw2 := hw1.trans (hb2.mono hw1.size)
  clear hb2 HNV hw1
  generalize encL v' f' s' g' ve' (nearB d) = E at *
  have hsz : (⟨E.toArray⟩ : ByteArray).size = 36 := HLE.out
  have HSZ := hid hsz
  clear hsz
  go_wp2_with fail
  refine (within_any _ _ _ (by omega) (by omega)).mono ?_
  rintro e w3 ⟨rfl, rfl⟩
  rw [HBN.out]
  go_wp2_with fail
  refine (flip_any ⟨E.toArray⟩ bn m _ (by rw [HSZ.out]; omega) (by omega)).mono ?_
  rintro e w3 ⟨rfl, hb3⟩
  rw [show ({ data := E.toArray } : ByteArray).data.toList = E from rfl]
  have hw3 := hw2.trans (hb3.mono hw2.size)
  clear hb3 hw2
  by_cases hne : flipL E bn m 32 = E
  · have hq : (flipL E bn m 32 == E) = true := by rw [hne]; simp
    clear hne
    generalize flipL E bn m 32 = T at *
    go_wp2_with fail
    refine (awake_any _).mono ?_
    rintro e w4 ⟨rfl, hb4⟩
    have hw4 := hw3.trans (hb4.mono hw3.size)
    go_wp2
    go_ret
    exact ⟨rfl, hw4⟩
  · have he := HFF.out hne
    have hq : (flipL E bn m 32 == E) = false := by simpa using hne
    have hfl := (flipL_length E bn m 32).trans HLE.out
    clear hne HFF
    generalize flipL E bn m 32 = T at *
    have HFL := hid hfl
    have H3 := hid he
    have HZ := hid (dec_no T he (by decide))
    clear hfl he
    have hsz : (⟨T.toArray⟩ : ByteArray).size ≤ maxLen := by
      have : (⟨T.toArray⟩ : ByteArray).size = 36 := HFL.out
      unfold maxLen; omega
    have HTZ := hid hsz
    clear hsz
    go_wp2_with fail
    refine (dec_prog ⟨T.toArray⟩ _ HTZ.out).mono ?_
    rintro e w4 ⟨rfl, hb4⟩
    rw [show ({ data := T.toArray } : ByteArray).data.toList = T from rfl, H3.out, HZ.out]
    unfold zeroCells
    have hw4 := hw3.trans (hb4.mono hw3.size)
    have hl4 := hw4.size
    clear hb4 hw3
    go_wp2_with fail
    refine (awake_any _).mono ?_
    rintro e w5 ⟨rfl, hb5⟩
    have hq5 := (zero_piece w4).below hb5 (by simp)
    have hw5 : Below w.heap.size w w5 := (hw4.alloc hl4 _).trans (hb5.mono (by simp; omega))
    obtain ⟨c0, c1, c2, c3, c4, c5⟩ := hq5.cells
    clear hb5
    go_wp2
    go_ret
    exact ⟨rfl, hw5⟩

theorem byteBits_xor (a b : UInt8) : byteBits (a ^^^ b) = List.zipWith (· ^^ ·) (byteBits a) (byteBits b) := by
  unfold byteBits
  rw [List.zipWith_map, List.zipWith_self]
  apply List.map_congr_left
  intro i _
  rw [UInt8.toNat_xor, Nat.testBit_xor]
theorem bitsOf_xor : ∀ (a b : List UInt8), a.length = b.length → bitsOf (List.zipWith (· ^^^ ·) a b) = List.zipWith (· ^^ ·) (bitsOf a) (bitsOf b)
  | [], [], _ => rfl
  | x :: a, y :: b, h => by
    show byteBits (x ^^^ y) ++ bitsOf (List.zipWith (· ^^^ ·) a b) = List.zipWith (· ^^ ·) (byteBits x ++ bitsOf a) (byteBits y ++ bitsOf b)
    rw [List.zipWith_append (by rw [byteBits_length, byteBits_length]), byteBits_xor, bitsOf_xor a b (by simpa using h)]
  | [], _ :: _, h => by simp at h
  | _ :: _, [], h => by simp at h
theorem crc_xor3 (a b c : List UInt8) (h1 : a.length = b.length) (h2 : a.length = c.length) : crc (List.zipWith (· ^^^ ·) (List.zipWith (· ^^^ ·) a b) c) = crc a ^^^ crc b ^^^ crc c := by
  rw [crc_feeds, crc_feeds, crc_feeds, crc_feeds, bitsOf_xor _ _ (by simp; omega), bitsOf_xor a b h1]
  have e : (0xffffffff#32 : BitVec 32) = 0xffffffff#32 ^^^ 0xffffffff#32 ^^^ 0xffffffff#32 := rfl
  have h3 := feeds_xor (List.zipWith (· ^^ ·) (bitsOf a) (bitsOf b)) (bitsOf c) (0xffffffff#32 ^^^ 0xffffffff#32) 0xffffffff#32 (by rw [List.length_zipWith, bitsOf_length, bitsOf_length, bitsOf_length]; omega)
  rw [← e, feeds_xor _ _ _ _ (by rw [bitsOf_length, bitsOf_length]; omega)] at h3
  exact h3
end Go.Proofs.Ytmgghigongjjcaa
