/- Contracts of the functions on bytes, continued. -/
import Derived.Test.YtegekmdechcikaaBytes
namespace Go.Proofs.Ytegekmdechcikaa
open Go.RowKit

theorem extract_toList (s : ByteArray) (a b : Nat) : (s.extract a b).data.toList = (s.data.toList.drop a).take (b - a) := by
  simp [ByteArray.data_extract, List.extract_eq_take_drop]

set_option maxHeartbeats 400000 in
theorem number_any (s : ByteArray) (a n : Nat) (w : World) (h : a + n ≤ s.size) (hn : n ≤ 5) (hs : s.size ≤ 1000) :
    Calls Try.prog 66 #[.string s, .int .i64 a, .int .i64 n] w fun e w' => e = .returned (.int .i64 (num ((s.data.toList.drop a).take n))) ∧ Below w.heap.size w w' := by
  have hz : (s.extract a (a + n)).size = n := by simp; omega
  have HZ := hid hz; clear hz
  go_enter Try.func66, Try.ntmps66
  go_wp2_with (refine wpList_bytes rfl (.tmp 15) 9 90 5 rfl Try.underlying9 Try.underlying90 Try.underlying5 (s.extract a (a + n)) rfl ?_)
  intro cap w1 hrow hlt hb
  clear HZ
  have hll : ((s.data.toList.drop a).take n).length = n := by simp; omega
  have HLL := hid hll; clear hll
  generalize hgl : (s.data.toList.drop a).take n = l at hrow HLL
  have HGL := hid hgl; clear hgl
  go_wp2
  go_loop [7, 18] (fun v i => ∃ (k : Nat) (y : Int), k ≤ n ∧ i = .int .i64 (k : Int) ∧ v = .int .i64 y ∧ Hid (y = num (l.take k))) (fun _ i => (n - intOf i).toNat)
  case atStart => exact ⟨0, 0, Nat.zero_le _, rfl, rfl, rfl⟩
  case round =>
    obtain ⟨k, y, hk, rfl, rfl, hy⟩ := hrel
    have hy0 : 0 ≤ y := by rw [hy.out]; exact num_nonneg _
    by_cases hlt : k < n
    · have hy1 : y < 4294967296 := by rw [hy.out]; exact num_take_lt _ k (by omega)
      have hkl : k < l.length := by rw [HLL.out]; exact hlt
      have hcell := hrow.cell k hkl
      have hc : (l[k].toNat : Int) < 256 := by have := l[k].toNat_lt; omega
      have HN := hid (show y * 256 + (l[k].toNat : Int) = num (l.take (k + 1)) by rw [hy.out, num_take_succ _ k hkl])
      generalize l[k].toNat = c at *
      have H := hid (or_i64 y (c : Int) hy0 (by omega) (by omega) hc)
      go_wp2
      go_round
      case rel => exact ⟨k + 1, _, by omega, by go_num, rfl, by rw [H.out]; exact HN⟩
      case measure => (simp [intOf]; try omega)
    · go_wp2
      go_ret
      exact ⟨by rw [hy.out, List.take_of_length_le (by rw [HLL.out]; omega), HGL.out]; rfl, hb⟩

theorem Try.make36 : ∀ w, (Instr.makeSlice 90 (.int .i64 36) (.int .i64 36)).run Try.prog w = .ok (.slice (some ⟨w.heap.size, 0, none⟩) 36 36) (w.alloc (.cells (row (List.replicate 36 0)) 5)) := fun _ => by kernel_rfl
theorem Try.make16 : ∀ w, (Instr.makeSlice 90 (.int .i64 16) (.int .i64 16)).run Try.prog w = .ok (.slice (some ⟨w.heap.size, 0, none⟩) 16 16) (w.alloc (.cells (row (List.replicate 16 0)) 5)) := fun _ => by kernel_rfl

theorem Try.make36z : ∀ w, (Instr.makeSlice 90 (.int .i64 36) (.int .i64 36)).run Try.prog w = .ok (.slice (some ⟨w.heap.size, 0, none⟩) 36 36) (w.alloc (.cells (row (zeros 36)) 5)) := Try.make36
theorem Try.make16z : ∀ w, (Instr.makeSlice 90 (.int .i64 16) (.int .i64 16)).run Try.prog w = .ok (.slice (some ⟨w.heap.size, 0, none⟩) 16 16) (w.alloc (.cells (row (zeros 16)) 5)) := Try.make16

theorem blank_any (w : World) :
    Calls Try.prog 28 #[] w fun e w' => e = .returned (str (zeros 36)) ∧ w.alloc (.cells (row (zeros 36)) 5) = w' := by
  have hmk := Try.make36z
  have hcs := run_str (P := Try.prog) 90 5 9 Try.underlying90 Try.underlying5 Try.underlying9 (row_new w (zeros 36) 5) 0 36 36 (by simp [zeros])
  rw [List.drop_zero, List.take_of_length_le (by simp [zeros])] at hcs
  go_enter Try.func28, Try.ntmps28
  go_wp2
  go_ret
  exact ⟨rfl, rfl⟩

end Go.Proofs.Ytegekmdechcikaa
