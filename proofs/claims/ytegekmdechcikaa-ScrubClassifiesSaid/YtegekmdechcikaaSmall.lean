/- Contracts of the small functions: Within, Valid (both), the second Sum. -/
import Derived.Test.YtegekmdechcikaaSum
import Derived.Test.YtegekmdechcikaaDBase
namespace Go.Proofs.Ytegekmdechcikaa
open Go.RowKit

set_option maxHeartbeats 400000 in
theorem sum_ref (s : ByteArray) (w : World) (hs : s.size ≤ maxLen) :
    Calls Try.prog 65 #[.string s] w fun e w' => e = .returned (u32 (crc s.data.toList)) ∧ w = w' := by
  unfold maxLen at hs
  go_enter Try.func65, Try.ntmps65
  go_wp2
  go_loop [3, 4] (fun r i => ∃ (k : Nat) (x : BitVec 32), k ≤ s.size ∧ i = .int .i64 k ∧ r = .int .u32 (x.toNat : Int) ∧ Hid (x = crc (s.data.toList.take k))) (fun _ i => s.size - (intOf i).toNat)
  case atStart => exact ⟨0, 0xffffffff#32, Nat.zero_le _, rfl, rfl, rfl⟩
  case round =>
    obtain ⟨k, x, hk, rfl, rfl, hx⟩ := hrel
    have hr := u32_range x
    by_cases hlt : k < s.size
    · have hin := in_u32 x s[k]
      have H := hid hin; clear hin
      go_wp2
      rw [H.out]
      go_loop [3, 5] (fun r i => ∃ (j : Nat) (y : BitVec 32), j ≤ 8 ∧ i = .int .i64 j ∧ r = .int .u32 (y.toNat : Int) ∧ Hid (y = crcSteps j (crcIn x s[k]))) (fun _ i => 8 - (intOf i).toNat)
      case atStart => exact ⟨0, _, Nat.zero_le _, rfl, rfl, rfl⟩
      case round =>
        obtain ⟨j, y, hj, rfl, rfl, hy⟩ := hrel
        have hr := u32_range y
        by_cases hjt : j < 8
        · go_wp2
          · go_round
            case rel => exact ⟨j + 1, crcStep y, by omega, by go_num, by rw [step_u32_1 y (by assumption)], by show _ = crcStep _; rw [hy.out]⟩
            case measure => simp [intOf]; omega
          · go_round
            case rel => exact ⟨j + 1, crcStep y, by omega, by go_num, by rw [step_u32_0 y (by assumption)], by show _ = crcStep _; rw [hy.out]⟩
            case measure => simp [intOf]; omega
        · obtain rfl : j = 8 := by omega
          go_wp2
          go_round
          case rel => exact ⟨k + 1, y, by omega, by go_num, rfl, by show _ = _; rw [bytes_take s k hlt, hy.out, hx.out]⟩
          case measure => simp [intOf]; omega
    · go_wp2
      go_ret
      exact ⟨by rw [hx.out, List.take_of_length_le (by simp; omega)]; rfl, rfl⟩

def validB (v f s g ve : Int) (n : Nat) : Bool := decide (0 ≤ v ∧ v < 12 ∧ 0 ≤ f ∧ f < 8 ∧ 0 ≤ s ∧ s < 4 ∧ 1 ≤ g ∧ g ≤ 1099511627775 ∧ 1 ≤ ve ∧ ve ≤ 1099511627775 ∧ n = 16)

abbrev pieceCells (v f s g ve : Int) (d : ByteArray) : Array Value := #[.int .i64 v, .int .i64 f, .int .i64 s, .int .i64 g, .int .i64 ve, .string d]

theorem ret_bool {a b : Bool} (h : a = b) : Ending.returned (.bool a) = .returned (.bool b) := by rw [h]

set_option maxHeartbeats 1000000 in
theorem valid_prog (v f s g ve : Int) (d : ByteArray) (w : World) :
    Calls Try.prog 74 #[.agg #[.int .i64 v, .int .i64 f, .int .i64 s, .int .i64 g, .int .i64 ve, .string d]] w fun e w' => e = .returned (.bool (validB v f s g ve d.size)) ∧ w.alloc (.cells (pieceCells v f s g ve d) 23) = w' := by
  go_enter Try.func74, Try.ntmps74
  go_wp2
  all_goals
    go_ret
    refine ⟨ret_bool ?_, rfl⟩
    unfold validB
    rw [Bool.eq_iff_iff]
    simp
    try omega

set_option maxHeartbeats 1000000 in
theorem valid_ref (v f s g ve : Int) (d : ByteArray) (w : World) :
    Calls Try.prog 39 #[.agg #[.int .i64 v, .int .i64 f, .int .i64 s, .int .i64 g, .int .i64 ve, .string d]] w fun e w' => e = .returned (.bool (validB v f s g ve d.size)) ∧ w.alloc (.cells (pieceCells v f s g ve d) 23) = w' := by
  go_enter Try.func39, Try.ntmps39
  go_wp2
  all_goals
    go_ret
    refine ⟨ret_bool ?_, rfl⟩
    unfold validB
    rw [Bool.eq_iff_iff]
    simp
    try omega

end Go.Proofs.Ytegekmdechcikaa
