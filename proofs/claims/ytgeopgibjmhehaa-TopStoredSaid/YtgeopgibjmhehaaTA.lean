/- Contracts of the small functions: Within, Valid (both), the second Sum. -/
import Derived.Test.YtgeopgibjmhehaaSum
import Derived.Test.YtgeopgibjmhehaaDBase
import Derived.Test.YtgeopgibjmhehaaMem
namespace Go.Proofs.Ytgeopgibjmhehaa
open Go.RowKit

def validB (v f s g ve : Int) (n : Nat) : Bool := decide (0 ≤ v ∧ v < 12 ∧ 0 ≤ f ∧ f < 8 ∧ 0 ≤ s ∧ s < 4 ∧ 1 ≤ g ∧ g ≤ 1099511627775 ∧ 1 ≤ ve ∧ ve ≤ 1099511627775 ∧ n = 16)

abbrev pieceCells (v f s g ve : Int) (d : ByteArray) : Array Value := #[.int .i64 v, .int .i64 f, .int .i64 s, .int .i64 g, .int .i64 ve, .string d]

theorem ret_bool {a b : Bool} (h : a = b) : Ending.returned (.bool a) = .returned (.bool b) := by rw [h]

set_option maxHeartbeats 1000000 in
theorem valid_prog (v f s g ve : Int) (d : ByteArray) (w : World) :
    Calls Try.prog 19 #[.agg #[.int .i64 v, .int .i64 f, .int .i64 s, .int .i64 g, .int .i64 ve, .string d]] w fun e w' => e = .returned (.bool (validB v f s g ve d.size)) ∧ w.alloc (.cells (pieceCells v f s g ve d) 35) = w' := by
  go_enter Try.func19, Try.ntmps19
  go_wp2
  all_goals
    go_ret
    refine ⟨ret_bool ?_, rfl⟩
    unfold validB
    rw [Bool.eq_iff_iff]
    simp
    try omega

end Go.Proofs.Ytgeopgibjmhehaa

/- Contracts of the functions on bytes. -/
namespace Go.Proofs.Ytgeopgibjmhehaa
open Go.RowKit

set_option maxHeartbeats 400000 in
theorem put_any (b cap: Nat) (a n : Nat) (x : Int) (l : List UInt8) (w : World) (hn : n ≤ 7) (hc : cap ≤ 100) (h : a + n ≤ l.length) (hlc : l.length = cap) (hr : RowAt w b l) :
    Calls Try.prog 20 #[.slice (some ⟨b, 0, none⟩) cap cap, .int .i64 a, .int .i64 n, .int .i64 x] w fun e w' => e = .returned (.tuple #[]) ∧ RowAt w' b (lay l a n x 0) ∧ w.grownBy w' (some b) := by
  have HL := hid hlc; clear hlc
  have hlc2 : a + n ≤ cap := by rw [← HL.out]; exact h
  go_enter Try.func20, Try.ntmps20
  go_wp2
  go_loopw [3, 8] (fun v i wr => ∃ (k : Nat) (y : Int), k ≤ n ∧ i = .int .i64 ((k : Int) - 1) ∧ v = .int .i64 y ∧ Hid (y = shr8 (n - k) x) ∧ RowAt wr b (lay l a n x k) ∧ w.grownBy wr (some b)) (fun _ i _ => (intOf i + 1).toNat)
  case atStart => exact ⟨n, x, Nat.le_refl _, rfl, rfl, by rw [Nat.sub_self]; rfl, by rw [lay_start]; exact hr, grownBy_refl _ _⟩
  case round =>
    obtain ⟨k, y, hk, rfl, rfl, hy, hrow, hg⟩ := hrel
    by_cases h0 : k = 0
    · subst h0
      go_wp2
      go_end0
      exact ⟨rfl, hrow, hg⟩
    · obtain ⟨j, rfl⟩ : ∃ j, k = j + 1 := ⟨k - 1, by omega⟩
      rw [show (((j + 1 : Nat) : Int) - 1) = (j : Int) by omega]
      have hlen : l.length ≤ (lay l a n x (j + 1)).length := by rw [lay_length l a n x (j + 1) hk h]; omega
      have hc := hrow.cell (a + j) (by omega)
      have hf := hrow.free (a + j) (by omega)
      have hst := hrow.store (a + j) (byteOf (shr8 (n - (j + 1)) x)) (by omega)
      rw [lay_set l a n x j (by omega) h, byteOf_toNat, ← hy.out] at hst
      have HST := hid hst; clear hst
      have HN := hid (show y / 256 = shr8 (n - j) x by rw [hy.out, show n - j = (n - (j + 1)) + 1 by omega]; rfl)
      go_wp2
      go_roundw
      case rel => exact ⟨j, y / 256, by omega, rfl, rfl, HN, HST.out, grownBy_set hg _ _⟩
      case measure => (simp [intOf]; try omega)

theorem Try.info_u8 : (Try.prog.info? 5).map (fun i => (i.zero, i.size, i.bytes)) = some (some (.int .u8 0), 1, 1) := by kernel_rfl

end Go.Proofs.Ytgeopgibjmhehaa

/- Contracts of the functions on bytes, continued. -/
namespace Go.Proofs.Ytgeopgibjmhehaa
open Go.RowKit

theorem extract_toList (s : ByteArray) (a b : Nat) : (s.extract a b).data.toList = (s.data.toList.drop a).take (b - a) := by
  simp [ByteArray.data_extract, List.extract_eq_take_drop]

set_option maxHeartbeats 400000 in
theorem number_any (s : ByteArray) (a n : Nat) (w : World) (h : a + n ≤ s.size) (hn : n ≤ 5) (hs : s.size ≤ 1000) :
    Calls Try.prog 36 #[.string s, .int .i64 a, .int .i64 n] w fun e w' => e = .returned (.int .i64 (num ((s.data.toList.drop a).take n))) ∧ Below w.heap.size w w' := by
  have hz : (s.extract a (a + n)).size = n := by simp; omega
  have HZ := hid hz; clear hz
  go_enter Try.func36, Try.ntmps36
  go_wp2_with (refine wpList_bytes rfl (.tmp 15) 9 22 5 rfl Try.underlying9 Try.underlying22 Try.underlying5 (s.extract a (a + n)) rfl ?_)
  intro cap w1 hrow hlt hb
  clear HZ
  have hll : ((s.data.toList.drop a).take n).length = n := by simp; omega
  have HLL := hid hll; clear hll
  generalize hgl : (s.data.toList.drop a).take n = l at hrow HLL
  have HGL := hid hgl; clear hgl
  go_wp2
  go_loop [7, 18] (fun v i => ∃ (k : Nat) (y : Int), k ≤ n ∧ i = .int .i64 (k : Int) ∧ v = .int .i64 y ∧ Hid (y = num (l.take k))) (fun _ i => (n - intOf i).toNat)
  case atStart => exact ⟨0, 0, Nat.zero_le _, rfl, rfl, rfl⟩
  case round =>
    obtain ⟨k, y, hk, rfl, rfl, hy⟩ := hrel
    have hy0 : 0 ≤ y := by rw [hy.out]; exact num_nonneg _
    by_cases hlt : k < n
    · have hy1 : y < 4294967296 := by rw [hy.out]; exact num_take_lt _ k (by omega)
      have hkl : k < l.length := by rw [HLL.out]; exact hlt
      have hcell := hrow.cell k hkl
      have hc : (l[k].toNat : Int) < 256 := by have := l[k].toNat_lt; omega
      have HN := hid (show y * 256 + (l[k].toNat : Int) = num (l.take (k + 1)) by rw [hy.out, num_take_succ _ k hkl])
      generalize l[k].toNat = c at *
      have H := hid (or_i64 y (c : Int) hy0 (by omega) (by omega) hc)
      go_wp2
      go_round
      case rel => exact ⟨k + 1, _, by omega, by go_num, rfl, by rw [H.out]; exact HN⟩
      case measure => (simp [intOf]; try omega)
    · go_wp2
      go_ret
      exact ⟨by rw [hy.out, List.take_of_length_le (by rw [HLL.out]; omega), HGL.out]; rfl, hb⟩

theorem Try.make36 : ∀ w, (Instr.makeSlice 22 (.int .i64 36) (.int .i64 36)).run Try.prog w = .ok (.slice (some ⟨w.heap.size, 0, none⟩) 36 36) (w.alloc (.cells (row (List.replicate 36 0)) 5)) := fun _ => by kernel_rfl
theorem Try.make16 : ∀ w, (Instr.makeSlice 22 (.int .i64 16) (.int .i64 16)).run Try.prog w = .ok (.slice (some ⟨w.heap.size, 0, none⟩) 16 16) (w.alloc (.cells (row (List.replicate 16 0)) 5)) := fun _ => by kernel_rfl

theorem Try.make36z : ∀ w, (Instr.makeSlice 22 (.int .i64 36) (.int .i64 36)).run Try.prog w = .ok (.slice (some ⟨w.heap.size, 0, none⟩) 36 36) (w.alloc (.cells (row (zeros 36)) 5)) := Try.make36
theorem Try.make16z : ∀ w, (Instr.makeSlice 22 (.int .i64 16) (.int .i64 16)).run Try.prog w = .ok (.slice (some ⟨w.heap.size, 0, none⟩) 16 16) (w.alloc (.cells (row (zeros 16)) 5)) := Try.make16

end Go.Proofs.Ytgeopgibjmhehaa
