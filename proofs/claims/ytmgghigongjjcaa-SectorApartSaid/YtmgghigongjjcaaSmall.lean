/- Contracts of the small functions: Within, Valid (both), the second Sum. -/
import Derived.Test.YtmgghigongjjcaaSum
namespace Go.Proofs.Ytmgghigongjjcaa
open Go.RowKit

set_option maxHeartbeats 400000 in
theorem sum_ref (s : ByteArray) (w : World) (hs : s.size ≤ maxLen) :
    Calls Try.prog 23 #[.string s] w fun e w' => e = .returned (u32 (crc s.data.toList)) ∧ w = w' := by
  unfold maxLen at hs
  go_enter Try.func23, Try.ntmps23
  go_wp2
  go_loop [3, 4] (fun r i => ∃ (k : Nat) (x : BitVec 32), k ≤ s.size ∧ i = .int .i64 k ∧ r = .int .u32 (x.toNat : Int) ∧ Hid (x = crc (s.data.toList.take k))) (fun _ i => s.size - (intOf i).toNat)
  case atStart => exact ⟨0, 0xffffffff#32, Nat.zero_le _, rfl, rfl, rfl⟩
  case round =>
    obtain ⟨k, x, hk, rfl, rfl, hx⟩ := hrel
    have hr := u32_range x
    by_cases hlt : k < s.size
    · have hin := in_u32 x s[k]
      have H := hid hin; clear hin
      go_wp2
      rw [H.out]
      go_loop [3, 5] (fun r i => ∃ (j : Nat) (y : BitVec 32), j ≤ 8 ∧ i = .int .i64 j ∧ r = .int .u32 (y.toNat : Int) ∧ Hid (y = crcSteps j (crcIn x s[k]))) (fun _ i => 8 - (intOf i).toNat)
      case atStart => exact ⟨0, _, Nat.zero_le _, rfl, rfl, rfl⟩
      case round =>
        obtain ⟨j, y, hj, rfl, rfl, hy⟩ := hrel
        have hr := u32_range y
        by_cases hjt : j < 8
        · go_wp2
          · go_round
            case rel => exact ⟨j + 1, crcStep y, by omega, by go_num, by rw [step_u32_1 y (by assumption)], by show _ = crcStep _; rw [hy.out]⟩
            case measure => simp [intOf]; omega
          · go_round
            case rel => exact ⟨j + 1, crcStep y, by omega, by go_num, by rw [step_u32_0 y (by assumption)], by show _ = crcStep _; rw [hy.out]⟩
            case measure => simp [intOf]; omega
        · obtain rfl : j = 8 := by omega
          go_wp2
          go_round
          case rel => exact ⟨k + 1, y, by omega, by go_num, rfl, by show _ = _; rw [bytes_take s k hlt, hy.out, hx.out]⟩
          case measure => simp [intOf]; omega
    · go_wp2
      go_ret
      exact ⟨by rw [hx.out, List.take_of_length_le (by simp; omega)]; rfl, rfl⟩

theorem tmod_add (x n : Int) (h1 : 1 ≤ n) (h : x.tmod n < 0) : x.tmod n + n = x % n := by
  have e1 := Int.tmod_eq_emod (a := x) (b := n)
  have a := Int.emod_nonneg x (show n ≠ 0 by omega)
  have b := Int.emod_lt_of_pos x (show 0 < n by omega)
  rw [e1] at h ⊢
  split at h
  · omega
  · have : (n.natAbs : Int) = n := by omega
    rw [if_neg (by assumption), this]; omega
theorem tmod_keep (x n : Int) (h1 : 1 ≤ n) (h : 0 ≤ x.tmod n) : x.tmod n = x % n := by
  have e1 := Int.tmod_eq_emod (a := x) (b := n)
  have a := Int.emod_nonneg x (show n ≠ 0 by omega)
  have b := Int.emod_lt_of_pos x (show 0 < n by omega)
  rw [e1] at h ⊢
  split at h
  · rw [if_pos (by assumption)]; omega
  · have : (n.natAbs : Int) = n := by omega
    rw [this] at h; omega

/-- Within: the remainder that is not negative. -/
theorem within_any (x n : Int) (w : World) (h1 : 1 ≤ n) (h2 : n ≤ 4611686018427387904) :
    Calls Try.prog 18 #[.int .i64 x, .int .i64 n] w fun e w' => e = .returned (.int .i64 (x % n)) ∧ w = w' := by
  have a := Int.emod_nonneg x (show n ≠ 0 by omega)
  have b := Int.emod_lt_of_pos x (show 0 < n by omega)
  have c := Int.tmod_lt_of_pos x (show 0 < n by omega)
  have d := Int.lt_tmod_of_pos x (show 0 < n by omega)
  by_cases hx : 0 ≤ x
  · go_enter Try.func18, Try.ntmps18
    go_wp2
    go_ret
    exact ⟨rfl, rfl⟩
  · by_cases ht : x.tmod n < 0
    · have H := hid (tmod_add x n h1 ht)
      go_enter Try.func18, Try.ntmps18
      go_wp2
      go_ret
      exact ⟨by rw [← H.out]; rfl, rfl⟩
    · have H := hid (tmod_keep x n h1 (by omega))
      go_enter Try.func18, Try.ntmps18
      go_wp2
      go_ret
      exact ⟨by rw [← H.out]; rfl, rfl⟩

def validB (v f s g ve : Int) (n : Nat) : Bool := decide (0 ≤ v ∧ v < 12 ∧ 0 ≤ f ∧ f < 8 ∧ 0 ≤ s ∧ s < 4 ∧ 1 ≤ g ∧ g ≤ 1099511627775 ∧ 1 ≤ ve ∧ ve ≤ 1099511627775 ∧ n = 16)

abbrev pieceCells (v f s g ve : Int) (d : ByteArray) : Array Value := #[.int .i64 v, .int .i64 f, .int .i64 s, .int .i64 g, .int .i64 ve, .string d]

theorem ret_bool {a b : Bool} (h : a = b) : Ending.returned (.bool a) = .returned (.bool b) := by rw [h]

set_option maxHeartbeats 1000000 in
theorem valid_prog (v f s g ve : Int) (d : ByteArray) (w : World) :
    Calls Try.prog 13 #[.agg #[.int .i64 v, .int .i64 f, .int .i64 s, .int .i64 g, .int .i64 ve, .string d]] w fun e w' => e = .returned (.bool (validB v f s g ve d.size)) ∧ w.alloc (.cells (pieceCells v f s g ve d) 23) = w' := by
  go_enter Try.func13, Try.ntmps13
  go_wp2
  all_goals
    go_ret
    refine ⟨ret_bool ?_, rfl⟩
    unfold validB
    rw [Bool.eq_iff_iff]
    simp
    try omega

set_option maxHeartbeats 1000000 in
theorem valid_ref (v f s g ve : Int) (d : ByteArray) (w : World) :
    Calls Try.prog 14 #[.agg #[.int .i64 v, .int .i64 f, .int .i64 s, .int .i64 g, .int .i64 ve, .string d]] w fun e w' => e = .returned (.bool (validB v f s g ve d.size)) ∧ w.alloc (.cells (pieceCells v f s g ve d) 23) = w' := by
  go_enter Try.func14, Try.ntmps14
  go_wp2
  all_goals
    go_ret
    refine ⟨ret_bool ?_, rfl⟩
    unfold validB
    rw [Bool.eq_iff_iff]
    simp
    try omega

end Go.Proofs.Ytmgghigongjjcaa
