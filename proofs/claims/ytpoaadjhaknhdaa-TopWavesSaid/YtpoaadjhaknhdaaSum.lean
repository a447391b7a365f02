/- The two checksum functions of the seat compute one plain function of the bytes. -/
import Derived.Test.YtpoaadjhaknhdaaRows
import Derived.Test.YtpoaadjhaknhdaaCrc
import Derived.WalkKit
import Derived.WalkLawsBesides
import Derived.WalkSpells
import Derived.Outline
namespace Go.Proofs.Ytpoaadjhaknhdaa
open Go.RowKit

theorem ret_val {a b : Value} (h : a = b) : Ending.returned a = .returned b := by rw [h]
theorem bytes_take (s : ByteArray) (k : Nat) (h : k < s.size) : crc (s.data.toList.take (k + 1)) = crcSteps 8 (crcIn (crc (s.data.toList.take k)) s[k]) :=
  crc_take _ k (by simpa using h)

set_option maxHeartbeats 400000 in
theorem sum_prog (s : ByteArray) (w : World) (hs : s.size ≤ maxLen) :
    Calls Try.prog 20 #[.string s] w fun e w' => e = .returned (u32 (crc s.data.toList)) ∧ w = w' := by
  unfold maxLen at hs
  go_enter Try.func20, Try.ntmps20
  go_wp2
  go_loop [3, 8] (fun r i => ∃ (k : Nat) (x : BitVec 32), k ≤ s.size ∧ i = .int .i64 k ∧ r = .int .u32 (x.toNat : Int) ∧ Hid (x = crc (s.data.toList.take k))) (fun _ i => s.size - (intOf i).toNat)
  case atStart => exact ⟨0, 0xffffffff#32, Nat.zero_le _, rfl, rfl, rfl⟩
  case round =>
    obtain ⟨k, x, hk, rfl, rfl, hx⟩ := hrel
    have hr := u32_range x
    by_cases hlt : k < s.size
    · have hin := in_u32 x s[k]
      have H := hid hin; clear hin
      go_wp2
      rw [H.out]
      go_loop [3, 18] (fun r i => ∃ (j : Nat) (y : BitVec 32), j ≤ 8 ∧ i = .int .i64 j ∧ r = .int .u32 (y.toNat : Int) ∧ Hid (y = crcSteps j (crcIn x s[k]))) (fun _ i => 8 - (intOf i).toNat)
      case atStart => exact ⟨0, _, Nat.zero_le _, rfl, rfl, rfl⟩
      case round =>
        obtain ⟨j, y, hj, rfl, rfl, hy⟩ := hrel
        have hr := u32_range y
        by_cases hjt : j < 8
        · go_wp2
          · go_round
            case rel => exact ⟨j + 1, crcStep y, by omega, by go_num, by rw [step_u32_1 y (by assumption)], by show _ = crcStep _; rw [hy.out]⟩
            case measure => simp [intOf]; omega
          · go_round
            case rel => exact ⟨j + 1, crcStep y, by omega, by go_num, by rw [step_u32_0 y (by assumption)], by show _ = crcStep _; rw [hy.out]⟩
            case measure => simp [intOf]; omega
        · obtain rfl : j = 8 := by omega
          go_wp2
          go_round
          case rel => exact ⟨k + 1, y, by omega, by go_num, rfl, by show _ = _; rw [bytes_take s k hlt, hy.out, hx.out]⟩
          case measure => simp [intOf]; omega
    · go_wp2
      go_ret
      exact ⟨by rw [hx.out, List.take_of_length_le (by simp; omega)]; rfl, rfl⟩
end Go.Proofs.Ytpoaadjhaknhdaa
