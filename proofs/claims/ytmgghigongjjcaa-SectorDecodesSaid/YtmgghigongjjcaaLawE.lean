/- The walk of SectorDecodes. -/
import Derived.Test.YtmgghigongjjcaaLawC
namespace Go.Proofs.Ytmgghigongjjcaa
open Go.RowKit Go.Sort

set_option maxHeartbeats 1000000 in
theorem same_any (s : ByteArray) (w : World) (hs : s.size ≤ maxLen) :
    Calls Try.prog 20 #[.string s] w fun e w' => e = .returned (.bool true) ∧ Below w.heap.size w w' := by
  have HS := hid hs
  clear hs
  have h6 : ∃ a b c d e : Int, ∃ x : ByteArray, decCells s.data.toList = #[.int .i64 a, .int .i64 b, .int .i64 c, .int .i64 d, .int .i64 e, .string x] := by
    by_cases h : errOf s.data.toList = 0
    · rw [dec_yes _ h]; exact ⟨_, _, _, _, _, _, rfl⟩
    · rw [dec_no _ rfl h]; exact ⟨_, _, _, _, _, _, rfl⟩
  obtain ⟨a, b, c, d, e, x, hx⟩ := h6
  have HX := hid hx
  clear hx
  go_enter Try.func20, Try.ntmps20
  go_wp2_with fail
  refine (dec_prog s _ HS.out).mono ?_
  rintro e w1 ⟨rfl, hb1⟩
  rw [HX.out]
  go_wp2_with fail
  refine (dec_ref s _ HS.out).mono ?_
  rintro e w2 ⟨rfl, hb2⟩
  rw [HX.out]
  have hp2 := (piece_new w1 a b c d e x 23).below hb2 (by simp)
  have hw2 : Below w.heap.size w w2 := (hb1.alloc hb1.size _).trans (hb2.mono (by simp; have := hb1.size; omega))
  clear hb1 hb2
  generalize errOf s.data.toList = er at *
  have hp3 := hp2.alloc (.cells #[.int .i64 a, .int .i64 b, .int .i64 c, .int .i64 d, .int .i64 e, .string x] 23)
  have hq3 := piece_new w2 a b c d e x 23
  obtain ⟨c0, c1, c2, c3, c4, c5⟩ := hp3.cells
  obtain ⟨r0, r1, r2, r3, r4, r5⟩ := hq3.cells
  go_wp2
  go_ret
  exact ⟨rfl, hw2.alloc hw2.size _⟩

theorem blank_b (w : World) :
    Calls Try.prog 21 #[] w fun e w' => e = .returned (str (zeros 36)) ∧ Below w.heap.size w w' :=
  (blank_any w).mono fun _ _ ⟨he, hw⟩ => ⟨he, by rw [← hw]; exact (Below.refl _ _).alloc (Nat.le_refl _) _⟩

set_option maxHeartbeats 2000000 in
theorem law_decodes (s : ByteArray) (v f sr g ve : Int) (d : ByteArray) (at_ : Int) (by_ : UInt8) (w : World) (hs : s.size ≤ maxLen) (hd : d.size ≤ maxLen) :
    Calls Try.prog 5 #[.string s, .agg #[.int .i64 v, .int .i64 f, .int .i64 sr, .int .i64 g, .int .i64 ve, .string d], .int .i64 at_, .int .u8 by_.toNat] w fun e w' => e = .returned (.bool true) ∧ Below w.heap.size w w' := by
  have hnv := near_valid v f sr g ve (nearB d).length (nearB_length d)
  have HD := hid hd
  have HS := hid hs
  clear hd hs
  go_enter Try.func5, Try.ntmps5
  by_cases h200 : 200 < s.size
  · go_wp2_with fail
    refine (awake_any _).mono ?_
    rintro e w1 ⟨rfl, hb1⟩
    go_wp2
    go_ret
    exact ⟨rfl, ((Below.refl _ _).alloc (Nat.le_refl _) _).trans (hb1.mono (by simp))⟩
  · go_wp2_with fail
    refine (near_b _ _ _ _ _ _ _ HD.out).mono ?_
    rintro e w1 ⟨rfl, hb1⟩
    clear HD
    generalize v % 12 = v' at *
    generalize f % 8 = f' at *
    generalize sr % 4 = s' at *
    generalize 1 + g % 1099511627775 = g' at *
    generalize 1 + ve % 1099511627775 = ve' at *
    have HLE := hid (encL_length v' f' s' g' ve' (nearB d) (nearB_length d))
    have HNV := hid hnv
    clear hnv
    go_wp2_with fail
    refine (enc_ref_yes _ _ _ _ _ _ _ HNV.out).mono ?_
    rintro e w2 ⟨rfl, hb2⟩
    rw [show ({ data := (nearB d).toArray } : ByteArray).data.toList = nearB d from rfl]
    have hw2 : Below w.heap.size w w2 := by
      have h1 : Below w.heap.size w w1 := ((Below.refl _ _).alloc (Nat.le_refl _) _).trans (hb1.mono (by simp))
      exact h1.trans (hb2.mono h1.size)
    clear hb1 hb2 HNV
    generalize encL v' f' s' g' ve' (nearB d) = E at *
    obtain ⟨B, hB, hBs⟩ : ∃ B : ByteArray, str E = .string B ∧ B.size = 36 := ⟨⟨E.toArray⟩, rfl, HLE.out⟩
    rw [hB]
    clear hB HLE E
    go_wp2_with (refine wpList_bytes rfl (.tmp 25) 9 30 5 rfl Try.underlying9 Try.underlying30 Try.underlying5 B rfl ?_)
    intro cap w3 hrow hlt3 hb3
    obtain ⟨i, hi⟩ := Int.eq_ofNat_of_zero_le (Int.emod_nonneg at_ (show (36 : Int) ≠ 0 by decide))
    have hil : i < 36 := by have := Int.emod_lt_of_pos at_ (show (0 : Int) < 36 by decide); omega
    have HI := hid hi
    clear hi
    go_wp2_with fail
    refine (within_any _ _ _ (by omega) (by omega)).mono ?_
    rintro e w4 ⟨rfl, rfl⟩
    rw [HI.out]
    have hBl : B.data.toList.length = 36 := by simpa using hBs
    have hc := hrow.cell i (by omega)
    have hf := hrow.free i (by omega)
    have hst := hrow.store i (B.data.toList[i]'(by omega) ^^^ by_) (by omega)
    rw [← xor_u8] at hst
    have hb4 := (hw2.trans (hb3.mono hw2.size)).setCell (show w.heap.size ≤ (⟨w2.heap.size, i, none⟩ : Addr).block from hw2.size) (.int .u8 (bits .xor .u8 ↑(B.data.toList[i]'(by omega)).toNat ↑by_.toNat))
    obtain ⟨U, hU, hUl⟩ : ∃ U : List UInt8, U = B.data.toList.set i (B.data.toList[i]'(by omega) ^^^ by_) ∧ U.length = 36 := ⟨_, rfl, by simpa using hBs⟩
    rw [← hU] at hst
    simp only [Array.getElem_toList] at hc hst hb4
    have hcs := run_str (P := Try.prog) 30 5 9 Try.underlying30 Try.underlying5 Try.underlying9 hst 0 36 cap (by omega)
    rw [List.drop_zero, List.take_of_length_le (by omega)] at hcs
    obtain ⟨V, hV, hVs⟩ : ∃ V : ByteArray, str U = .string V ∧ V.size = 36 := ⟨⟨U.toArray⟩, rfl, hUl⟩
    rw [hV] at hcs
    have HB4 := hid hb4
    clear hst hb4 hb3 hU hV hUl U
    go_wp2_with fail
    clear hcs hc hf
    have hb4 := HB4.out
    generalize w3.setCell _ _ = w4 at hb4 ⊢
    clear HB4
    generalize (B.data[i]'(by simpa using hBs ▸ hil)).toNat = bq at *
    refine (sealed_any _ _ (by simp; omega)).mono ?_
    rintro e w5 ⟨rfl, hb5⟩
    have hw5 := hb4.trans (hb5.mono hb4.size)
    obtain ⟨X, hX, hXs⟩ : ∃ X : ByteArray, str (sealL (V.extract 0 32).data.toList) = .string X ∧ X.size ≤ 36 := ⟨⟨(sealL (V.extract 0 32).data.toList).toArray⟩, rfl, by show (sealL (V.extract 0 32).data.toList).length ≤ 36; rw [sealL_length]; simp; omega⟩
    rw [hX]
    clear hX hb5 hb4
    by_cases h32 : 32 ≤ s.size
    · go_wp2_with fail
      refine (sealed_any _ _ (by simp; omega)).mono ?_
      rintro e w6 ⟨rfl, hb6⟩
      have hw6 := hw5.trans (hb6.mono hw5.size)
      obtain ⟨Y, hY, hYs⟩ : ∃ Y : ByteArray, str (sealL (s.extract 0 32).data.toList) = .string Y ∧ Y.size ≤ 36 := ⟨⟨(sealL (s.extract 0 32).data.toList).toArray⟩, rfl, by show (sealL (s.extract 0 32).data.toList).length ≤ 36; rw [sealL_length]; simp; omega⟩
      rw [hY]
      clear hY hb6 hw5
      go_wp2_with (first | (go_at_call 12; refine (awake_any _).mono ?_; rintro e wn ⟨rfl, hbn⟩; replace hw6 := hw6.trans (hbn.mono hw6.size); clear hbn) | (go_at_call 18; refine (within_any _ _ _ (by omega) (by omega)).mono ?_; rintro e wn ⟨rfl, rfl⟩; rw [HI.out]) | (go_at_call 21; refine (blank_b _).mono ?_; rintro e wn ⟨rfl, hbn⟩; replace hw6 := hw6.trans (hbn.mono hw6.size); clear hbn) | (go_at_call 20; refine (same_any _ _ (by first | exact HS.out | (unfold maxLen; omega) | (unfold maxLen; decide) | (rw [ByteArray.size_append, hBs]; unfold maxLen; decide) | (unfold maxLen; simp; omega))).mono ?_; rintro e wn ⟨rfl, hbn⟩; replace hw6 := hw6.trans (hbn.mono hw6.size); clear hbn))
      go_ret
      exact ⟨rfl, hw6⟩
    · have hw6 := hw5
      clear hw5
      go_wp2_with (first | (go_at_call 12; refine (awake_any _).mono ?_; rintro e wn ⟨rfl, hbn⟩; replace hw6 := hw6.trans (hbn.mono hw6.size); clear hbn) | (go_at_call 18; refine (within_any _ _ _ (by omega) (by omega)).mono ?_; rintro e wn ⟨rfl, rfl⟩; rw [HI.out]) | (go_at_call 21; refine (blank_b _).mono ?_; rintro e wn ⟨rfl, hbn⟩; replace hw6 := hw6.trans (hbn.mono hw6.size); clear hbn) | (go_at_call 20; refine (same_any _ _ (by first | exact HS.out | (unfold maxLen; omega) | (unfold maxLen; decide) | (rw [ByteArray.size_append, hBs]; unfold maxLen; decide) | (unfold maxLen; simp; omega))).mono ?_; rintro e wn ⟨rfl, hbn⟩; replace hw6 := hw6.trans (hbn.mono hw6.size); clear hbn))
      go_ret
      exact ⟨rfl, hw6⟩
end Go.Proofs.Ytmgghigongjjcaa
