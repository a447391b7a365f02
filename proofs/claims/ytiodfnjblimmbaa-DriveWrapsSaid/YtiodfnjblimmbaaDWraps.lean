/- DriveWraps. -/
import Derived.Test.YtiodfnjblimmbaaDText
namespace Go.Proofs.Ytiodfnjblimmbaa
open Go Go.RowKit Go.Sort

/-- A new drive. -/
def newDS (c : Int) (r : Nat) : DS := ⟨c, List.replicate r blankSec, false, false, 0⟩
theorem write_yes {S : DS} {t s : Int} {d : ByteArray} (ho : S.online = true) (ht : ¬ t < S.term) (hs : S.slot s = true) (hd : d.size = 36) : S.write t s d = (0, { S with term := t, secs := S.secs.set (S.at s) ⟨d, false, false⟩ }) := by
  unfold DS.write
  rw [if_neg (by simp [ho]), if_neg ht, if_neg (by simp [hs]), if_neg (by simp [hd])]
theorem read_yes {S : DS} {s : Int} (ho : S.online = true) (hs : S.slot s = true) (hu : (S.get s).un = false) : S.read s = ((S.get s).data, 0) := by
  unfold DS.read
  rw [if_neg (by simp [ho]), if_neg (by simp [hs]), if_neg (by simp [hu])]
theorem online_up {S : DS} (h1 : S.off = false) (h2 : S.dead = false) (h3 : 0 < S.secs.length) : S.online = true := by
  unfold DS.online DS.gone
  rw [h1, h2]
  have : (S.secs.length == 0) = false := by rw [beq_eq_false_iff_ne]; omega
  rw [this]; rfl
theorem slot_in {S : DS} {s : Int} (h0 : 0 ≤ s) (h1 : s < S.claim) : S.slot s = true := by
  unfold DS.slot; simp [h0, h1]
theorem tmod_zero (a b : Int) (r : Nat) (hr : 1 ≤ r) : ((a - b).tmod (r : Int) = 0) ↔ a % (r : Int) = b % (r : Int) := by
  rw [← Int.dvd_iff_tmod_eq_zero, Int.emod_eq_emod_iff_emod_sub_eq_zero, Int.dvd_iff_emod_eq_zero]
theorem wraps_plain (c : Int) (r : Nat) (a b : Int) (X Y : ByteArray) (hr : 1 ≤ r) (ha : 0 ≤ a ∧ a < c) (hb : 0 ≤ b ∧ b < c) (hX : X.size = 36) (hY : Y.size = 36) :
    (newDS c r).write 0 a X = (0, ⟨c, (List.replicate r blankSec).set (a % (r : Int)).toNat ⟨X, false, false⟩, false, false, 0⟩) ∧
    DS.write ⟨c, (List.replicate r blankSec).set (a % (r : Int)).toNat ⟨X, false, false⟩, false, false, 0⟩ 0 b Y = (0, ⟨c, ((List.replicate r blankSec).set (a % (r : Int)).toNat ⟨X, false, false⟩).set (b % (r : Int)).toNat ⟨Y, false, false⟩, false, false, 0⟩) ∧
    DS.read ⟨c, ((List.replicate r blankSec).set (a % (r : Int)).toNat ⟨X, false, false⟩).set (b % (r : Int)).toNat ⟨Y, false, false⟩, false, false, 0⟩ a = (if (a - b).tmod (r : Int) = 0 then Y else X, 0) := by
  have a0 := Int.emod_nonneg a (show (r : Int) ≠ 0 by omega)
  have a1 := Int.emod_lt_of_pos a (show (0 : Int) < r by omega)
  have b0 := Int.emod_nonneg b (show (r : Int) ≠ 0 by omega)
  have b1 := Int.emod_lt_of_pos b (show (0 : Int) < r by omega)
  have ha' : (a % (r : Int)).toNat < r := by omega
  have hb' : (b % (r : Int)).toNat < r := by omega
  refine ⟨?_, ?_, ?_⟩
  · rw [write_yes (online_up rfl rfl (by simp [newDS]; omega)) (by simp [newDS]) (slot_in ha.1 ha.2) hX]
    simp [newDS, DS.at]
  · rw [write_yes (online_up rfl rfl (by simp; omega)) (by simp) (slot_in hb.1 hb.2) hY]
    simp [DS.at]
  · have hg : DS.get ⟨c, ((List.replicate r blankSec).set (a % (r : Int)).toNat ⟨X, false, false⟩).set (b % (r : Int)).toNat ⟨Y, false, false⟩, false, false, 0⟩ a = ⟨if (a - b).tmod (r : Int) = 0 then Y else X, false, false⟩ := by
      have hlen : (((List.replicate r blankSec).set (a % (r : Int)).toNat ⟨X, false, false⟩).set (b % (r : Int)).toNat ⟨Y, false, false⟩).length = r := by simp
      unfold DS.get DS.at
      simp only [hlen, List.getD_eq_getElem?_getD]
      rw [List.getElem?_set, List.getElem?_set]
      by_cases he : a % (r : Int) = b % (r : Int)
      · rw [if_pos ((tmod_zero a b r hr).2 he), if_pos (by rw [he])]
        simp [hb']
      · rw [if_neg (fun h => he ((tmod_zero a b r hr).1 h)), if_neg (by omega)]
        simp [ha']
    rw [read_yes (online_up rfl rfl (by simp; omega)) (slot_in ha.1 ha.2) (by rw [hg]), hg]

set_option maxRecDepth 100000 in
set_option maxHeartbeats 400000 in
theorem law_wraps (claim real a b : Int) (x y : ByteArray) (w : World) (hx : x.size ≤ maxLen) (hy : y.size ≤ maxLen) :
    Calls Try.prog 3 #[.int .i64 claim, .int .i64 real, .int .i64 a, .int .i64 b, .string x, .string y] w fun e w' => e = .returned (.bool true) ∧ Below w.heap.size w w' := by
  have HX := hid hx
  have HY := hid hy
  clear hx hy
  have k0 := Int.emod_nonneg claim (show (128 : Int) ≠ 0 by decide)
  have k1 := Int.emod_lt_of_pos claim (show (0 : Int) < 128 by decide)
  go_enter Try.func3, Try.ntmps3
  go_wp2_with fail
  refine (within_any _ _ _ (by omega) (by omega)).mono ?_
  rintro e w1 ⟨rfl, rfl⟩
  generalize claim % 128 = cm at *
  have r0 := Int.emod_nonneg real (show 1 + cm ≠ 0 by omega)
  have r1 := Int.emod_lt_of_pos real (show 0 < 1 + cm by omega)
  go_wp2_with fail
  refine (within_any _ _ _ (by omega) (by omega)).mono ?_
  rintro e w1 ⟨rfl, rfl⟩
  generalize real % (1 + cm) = rm at *
  obtain ⟨r, hr⟩ := Int.eq_ofNat_of_zero_le (show 0 ≤ 1 + rm by omega)
  have hr1 : 1 ≤ r := by omega
  go_wp2_with fail
  refine (new_yes (1 + cm) r w hr1 (by omega) (by omega)).mono ?_
  rintro e w1 ⟨p, q, hp, hq, rfl, hd1, hb1⟩
  have HD1 := hid hd1
  clear hd1
  by_cases hlong : 100 < x.size ∨ 100 < y.size
  · have hfin : True := trivial
    rcases hlong with h1 | h1
    · go_wp2_with (go_at_call 16; refine (awake26 _).mono ?_; rintro e w2 ⟨rfl, hb2⟩)
      go_ret
      exact ⟨rfl, hb1.trans (hb2.mono hb1.size)⟩
    · by_cases h2 : 100 < x.size
      · go_wp2_with (go_at_call 16; refine (awake26 _).mono ?_; rintro e w2 ⟨rfl, hb2⟩)
        go_ret
        exact ⟨rfl, hb1.trans (hb2.mono hb1.size)⟩
      · go_wp2_with (go_at_call 16; refine (awake26 _).mono ?_; rintro e w2 ⟨rfl, hb2⟩)
        go_ret
        exact ⟨rfl, hb1.trans (hb2.mono hb1.size)⟩
  · have hx100 : x.size ≤ 100 := by omega
    have hy100 : y.size ≤ 100 := by omega
    have e1 := Int.emod_nonneg a (show 1 + cm ≠ 0 by omega)
    have e2 := Int.emod_lt_of_pos a (show 0 < 1 + cm by omega)
    have f1 := Int.emod_nonneg b (show 1 + cm ≠ 0 by omega)
    have f2 := Int.emod_lt_of_pos b (show 0 < 1 + cm by omega)
    clear hlong
    go_wp2_with fail
    refine (within_any _ _ _ (by omega) (by omega)).mono ?_
    rintro e w2 ⟨rfl, rfl⟩
    generalize a % (1 + cm) = am at *
    go_wp2_with fail
    refine (within_any _ _ _ (by omega) (by omega)).mono ?_
    rintro e w2 ⟨rfl, rfl⟩
    generalize b % (1 + cm) = bm at *
    go_wp2_with fail
    refine (text_any x _ HX.out).mono ?_
    rintro e w2 ⟨rfl, hb2⟩
    obtain ⟨X, hX, hXs⟩ : ∃ X, secOf x = X ∧ X.size = 36 := ⟨_, rfl, secOf_size x⟩
    rw [hX]
    go_wp2_with fail
    refine (text_any y _ HY.out).mono ?_
    rintro e w3 ⟨rfl, hb3⟩
    obtain ⟨Y, hY, hYs⟩ : ∃ Y, secOf y = Y ∧ Y.size = 36 := ⟨_, rfl, secOf_size y⟩
    rw [hY]
    have hd2 := HD1.out.below hb2 HD1.out.vals.lt HD1.out.secs.lt
    have hd3 := hd2.below hb3 hd2.vals.lt hd2.secs.lt
    have hw2 := hb1.trans (hb2.mono hb1.size)
    have hw3 := hw2.trans (hb3.mono hw2.size)
    have HD3 := hid hd3
    have HP := hid (wraps_plain (1 + cm) r am bm X Y hr1 ⟨e1, e2⟩ ⟨f1, f2⟩ hXs hYs)
    clear hd2 hd3 hw2 hb1 hb2 hb3 HD1 hX hY HX HY
    go_wp2_with fail
    refine (write_any 0 none HD3.out 0 am X (by simp; omega)).mono ?_
    rintro e w4 ⟨rfl, hd4, hk4⟩
    have q1 : DS.write ⟨1 + cm, List.replicate r blankSec, false, false, 0⟩ 0 am X = _ := HP.out.1
    rw [q1] at hd4
    rw [q1]
    dsimp only at hd4
    clear q1
    have hw4 := keep_new hw3 hk4 hp hq hw3.size
    have HD4 := hid hd4
    clear hd4 hk4 hw3 HD3
    go_wp2_with fail
    refine (write_any 0 none HD4.out 0 bm Y (by simp; omega)).mono ?_
    rintro e w5 ⟨rfl, hd5, hk5⟩
    rw [HP.out.2.1] at hd5
    rw [HP.out.2.1]
    dsimp only at hd5
    have hw5 := keep_new hw4 hk5 hp hq hw4.size
    have HD5 := hid hd5
    clear hd5 hk5 hw4 HD4
    go_wp2_with fail
    refine (read_any HD5.out am (by simp; omega)).mono ?_
    rintro e w6 ⟨rfl, n6, rfl⟩
    rw [HP.out.2.2]
    have hw6 := hw5.trans ((below_drew w5 n6).mono hw5.size)
    clear HD5 HP hw5
    have hsub : IntKind.i64.wrap (am - bm) = am - bm := IntWalk.i64_in _ (by omega)
    by_cases hz : (am - bm).tmod (r : Int) = 0
    · rw [if_pos hz]
      go_wp2_with (go_at_call 16; refine (awake26 _).mono ?_; rintro e w7 ⟨rfl, hb7⟩)
      go_ret
      exact ⟨rfl, hw6.trans (hb7.mono hw6.size)⟩
    · rw [if_neg hz]
      go_wp2_with (go_at_call 16; refine (awake26 _).mono ?_; rintro e w7 ⟨rfl, hb7⟩)
      go_ret
      exact ⟨rfl, hw6.trans (hb7.mono hw6.size)⟩
end Go.Proofs.Ytiodfnjblimmbaa
