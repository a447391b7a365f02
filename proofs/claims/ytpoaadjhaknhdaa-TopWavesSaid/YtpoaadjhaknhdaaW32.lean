/- The reference's natural numbers of one limb: Cmp, divide, Gcd. -/
import Derived.Test.YtpoaadjhaknhdaaW31
namespace Go.Proofs.Ytpoaadjhaknhdaa
open Go Go.RowKit Go.Sort Go.Deep

section
variable {w : World} {u v : Value} {a b : Nat}
set_option maxRecDepth 100000 in
set_option maxHeartbeats 800000 in
theorem rcmp_one (ha : One w u a) (hb : One w v b) : Calls Try.prog 58 #[u, v] w fun e w' => e = .returned (.int .i64 (cmpN a b)) ∧ Below w.heap.size w w' := by
  have HA := hid ha
  have HB := hid hb
  clear ha hb
  obtain ⟨c, hc⟩ : ∃ c, cmpN a b = c := ⟨_, rfl⟩
  rw [hc]
  have HC := hid hc
  clear hc
  go_enter Try.func58, Try.ntmps58
  go_wp2_with fail
  refine (rtrim_one HA.out).mono ?_
  rintro e w1 ⟨u1, rfl, hu1, hb1, _⟩
  have HU1 := hid hu1
  have HX1 := hid hb1
  clear hu1 hb1
  go_wp2_with fail
  refine (rtrim_one (HB.out.below HX1.out)).mono ?_
  rintro e w2 ⟨v2, rfl, hv2, hb2, _⟩
  have HU2 := hid (HU1.out.below hb2)
  have HV2 := hid hv2
  have HX2 := hid (HX1.out.trans (hb2.mono HX1.out.size))
  clear HU1 hv2 hb2
  rcases HU2.out.cases with ⟨rfl, A, ca, rfl, _⟩ | ⟨a0, ga, oa, ca, rfl, hga, ha1, hac, za⟩
  · rcases HV2.out.cases with ⟨rfl, B, cb, rfl, _⟩ | ⟨b0, gb, ob, cb, rfl, hgb, hb1, hbc, zb⟩
    · obtain rfl : c = 0 := HC.out.symm
      go_wp2
      refine wp_loop_rounds 1 ?_
      rw [rounds_succ]
      go_wp2
      go_ret
      exact ⟨rfl, HX2.out⟩
    · obtain rfl : c = -1 := by rw [← HC.out]; unfold cmpN; rw [if_pos b0]
      go_wp2
      go_ret
      exact ⟨rfl, HX2.out⟩
  · rcases HV2.out.cases with ⟨rfl, B, cb, rfl, _⟩ | ⟨b0, gb, ob, cb, rfl, hgb, hb1, hbc, zb⟩
    · obtain rfl : c = 1 := by rw [← HC.out]; unfold cmpN; rw [if_neg (by omega), if_pos a0]
      go_wp2
      go_ret
      exact ⟨rfl, HX2.out⟩
    · go_wp2
      refine wp_loop_rounds 2 ?_
      rw [rounds_succ]
      go_wp2
      rcases Nat.lt_trichotomy a b with h | h | h
      · obtain rfl : c = -1 := by rw [← HC.out]; unfold cmpN; rw [if_pos h]
        have h1 : (a : Int) < (b : Int) := by omega
        go_region
        all_goals
          go_wp2
          go_ret
          exact ⟨rfl, HX2.out.drew⟩
      · subst h
        obtain rfl : c = 0 := by rw [← HC.out]; unfold cmpN; rw [if_neg (by omega), if_neg (by omega)]
        go_region
        all_goals
          go_wp2
          go_region
          all_goals
            go_wp2
            rw [rounds_succ]
            go_wp2
            go_ret
            exact ⟨rfl, HX2.out.drew.drew⟩
      · obtain rfl : c = 1 := by rw [← HC.out]; unfold cmpN; rw [if_neg (by omega), if_pos h]
        have h1 : (b : Int) < (a : Int) := by omega
        go_region
        all_goals
          go_wp2
          go_region
          all_goals
            go_wp2
            go_ret
            exact ⟨rfl, HX2.out.drew.drew⟩
set_option maxRecDepth 100000 in
set_option maxHeartbeats 800000 in
theorem rdivide_one (ha : One w u a) (hb : One w v b) (b0 : 0 < b) : Calls Try.prog 46 #[u, v] w fun e w' => ∃ q r, e = .returned (.tuple #[q, r]) ∧ One w' q (a / b) ∧ One w' r (a % b) ∧ Below w.heap.size w w' := by
  have hb2 := hb.1
  have ha2 := ha.1
  have HA := hid ha
  have HB := hid hb
  obtain ⟨A, na, ca, rfl⟩ : ∃ A n c, u = .slice A n c := by
    rcases ha.cases with ⟨_, A, c, e, _⟩ | ⟨_, _, _, _, e, _⟩ <;> exact ⟨_, _, _, e⟩
  obtain ⟨h, _⟩ | ⟨_, gb, ob, cb, rfl, hgb, hb1, hbc, zb⟩ := hb.cases
  · omega
  clear hb
  by_cases hlt : a < b
  · have hc : cmpN a b = -1 := by unfold cmpN; rw [if_pos hlt]
    rw [Nat.div_eq_of_lt hlt, Nat.mod_eq_of_lt hlt]
    have HC := hid hc
    clear ha
    go_enter Try.func46, Try.ntmps46
    go_wp2_with fail
    refine (rcmp_one HA.out HB.out).mono ?_
    rintro e w2 ⟨rfl, hb2⟩
    rw [HC.out]
    go_wp2_with fail
    refine (rtrim_one (HA.out.below hb2)).mono ?_
    rintro e w3 ⟨v3, rfl, hv3, hb3, _⟩
    go_wp2
    go_ret2
    exact ⟨_, _, rfl, One.nil _, hv3, hb2.trans (hb3.mono hb2.size)⟩
  · obtain ⟨h, _⟩ | ⟨a0, ga, oa, ca', e, hga, ha1, hac, za⟩ := ha.cases
    · omega
    injection e with e1 e2 e3
    subst e1 e2 e3
    clear ha
    obtain ⟨c, hc⟩ : ∃ c, cmpN a b = c := ⟨_, rfl⟩
    have hc0 : ¬ c < 0 := by rw [← hc]; unfold cmpN; rw [if_neg hlt]; split <;> omega
    have HC := hid hc
    clear hc
    have hor := or_u64 a ha2
    have hq : (a : Int) / (b : Int) = ((a / b : Nat) : Int) := (Int.natCast_ediv a b).symm
    have hr : (a : Int).tmod (b : Int) = ((a % b : Nat) : Int) := (Int.ofNat_tmod a b).symm
    have hqa : a / b ≤ a := Nat.div_le_self a b
    have hra : a % b < b := Nat.mod_lt _ b0
    obtain ⟨q, hqq⟩ : ∃ q, a / b = q := ⟨_, rfl⟩
    obtain ⟨r, hrr⟩ : ∃ r, a % b = r := ⟨_, rfl⟩
    rw [hqq] at hq hqa ⊢
    rw [hrr] at hr hra ⊢
    clear hqq hrr
    go_enter Try.func46, Try.ntmps46
    go_wp2_with fail
    refine (rcmp_one HA.out HB.out).mono ?_
    rintro e w2 ⟨rfl, hbw⟩
    rw [HC.out]
    have z2 : w2.cell? ⟨gb, ob, none⟩ = some (u32v b) := (hbw.cell (p := ⟨gb, ob, none⟩) hgb).trans zb
    have z1 : w2.cell? ⟨ga, oa, none⟩ = some (u32v a) := (hbw.cell (p := ⟨ga, oa, none⟩) hga).trans za
    have hg1 : ga < w2.heap.size := Nat.lt_of_lt_of_le hga hbw.size
    have hg2 : gb < w2.heap.size := Nat.lt_of_lt_of_le hgb hbw.size
    have HX := hid hbw
    have HL := hid (limbs_new w2 [q] 78 (by simp; omega) (by unfold maxLen; simp))
    have HT := hid (show ([q] : List Nat).take (top [q] 1) = if q = 0 then [] else [q] by
      by_cases h : q = 0
      · subst h; rfl
      · rw [if_neg h]; simp [top, h])
    have k1 := make_1
    clear hbw zb za HA HB HC
    go_wp2_with fail
    refine wp_loop_rounds 2 ?_
    rw [rounds_succ]
    go_wp2
    rw [rounds_succ]
    go_wp2_with fail
    refine (rtrim_any HL.out (by simp)).mono ?_
    rintro e w3 ⟨v3, rfl, hl, _, hb3⟩
    have HQ := hid (show One w3 v3 q from ⟨by omega, by rw [← HT.out]; exact hl⟩)
    have HB3 := hid (HX.out.trans (((Below.refl _ _).alloc (Nat.le_refl _) _ |>.trans (hb3.mono (by simp))).mono HX.out.size))
    clear hl hb3
    go_wp2_with fail
    refine (rmake_one r (by omega) _).mono ?_
    rintro e w4 ⟨v4, rfl, hv4, hb4⟩
    go_wp2
    go_ret2
    exact ⟨_, _, rfl, HQ.out.below hb4, hv4, HB3.out.trans (hb4.mono HB3.out.size)⟩
set_option maxRecDepth 100000 in
set_option maxHeartbeats 800000 in
theorem rgcd_one (ha : One w u a) (hb : One w v b) : Calls Try.prog 36 #[u, v] w fun e w' => ∃ g, e = .returned (.tuple #[g, .int .i64 0]) ∧ One w' g (Nat.gcd a b) ∧ Below w.heap.size w w' := by
  have HA := hid ha
  have HB := hid hb
  clear ha hb
  go_enter Try.func36, Try.ntmps36
  go_wp2_with fail
  refine (rlarge_one HA.out).mono ?_
  rintro e w2 ⟨rfl, hbx⟩
  have HX0 := hid hbx
  clear hbx
  go_wp2_with fail
  refine (rlarge_one (HB.out.below HX0.out)).mono ?_
  rintro e w1 ⟨rfl, hbx⟩
  have HX1 := hid (HX0.out.trans (hbx.mono HX0.out.size))
  clear hbx HX0
  go_wp2_with fail
  refine (rtrim_one (HA.out.below HX1.out)).mono ?_
  rintro e w2 ⟨u2, rfl, hu2, hb2, _⟩
  have HU2 := hid hu2
  have HB2 := hid (HX1.out.trans (hb2.mono HX1.out.size))
  clear hu2 hb2
  go_wp2_with fail
  refine (rtrim_one (HB.out.below HB2.out)).mono ?_
  rintro e w3 ⟨v3, rfl, hv3, hb3, _⟩
  have HX3 := hid (HB2.out.trans (hb3.mono HB2.out.size))
  have HU3 := hid (HU2.out.below hb3)
  have HV3 := hid hv3
  clear hv3 hb3 HU2 HB2
  go_wp2_with fail
  go_loopg [6, 7] b (fun k p q wr => ∃ x y : Nat, Hid (y ≤ k) ∧ Hid (One wr p x) ∧ Hid (One wr q y) ∧ Hid (Nat.gcd x y = Nat.gcd a b) ∧ Hid (Below w.heap.size w wr))
  case atStart => exact ⟨a, b, hid (Nat.le_refl _), HU3, HV3, hid rfl, HX3⟩
  case round =>
    obtain ⟨x, y, HK, HP, HQ, HG, HX⟩ := hrel
    rcases HQ.out.cases with ⟨rfl, B, cb, rfl, _⟩ | ⟨y0, gb, ob, cb, rfl, hgb, hb1, hbc, zb⟩
    · go_wp2
      go_ret2
      exact ⟨_, rfl, by have := HG.out; rw [Nat.gcd_zero_right] at this; rw [← this]; exact HP.out, HX.out⟩
    · clear zb
      go_wp2_with fail
      refine (rdivide_one HP.out HQ.out y0).mono ?_
      rintro e w5 ⟨q, r, rfl, hq, hr, hb5⟩
      have HR := hid hr
      have HQ5 := hid (HQ.out.below hb5)
      have HX5 := hid (HX.out.trans (hb5.mono HX.out.size))
      clear hq hr hb5
      go_wp2
      go_roundg (x % y)
      case measure => exact Nat.lt_of_lt_of_le (Nat.mod_lt _ y0) HK.out
      case rel => exact ⟨y, x % y, hid (Nat.le_refl _), HQ5, HR, hid (by rw [← HG.out, Nat.gcd_comm x y, Nat.gcd_rec y x, Nat.gcd_comm]), HX5⟩
end
end Go.Proofs.Ytpoaadjhaknhdaa
