/- Contracts of the functions on bytes. -/
import Derived.Test.YtegekmdechcikaaSmall
import Derived.Test.YtegekmdechcikaaMem
namespace Go.Proofs.Ytegekmdechcikaa
open Go.RowKit

set_option maxHeartbeats 400000 in
theorem put_any (b cap: Nat) (a n : Nat) (x : Int) (l : List UInt8) (w : World) (hn : n ≤ 7) (hc : cap ≤ 100) (h : a + n ≤ l.length) (hlc : l.length = cap) (hr : RowAt w b l) :
    Calls Try.prog 75 #[.slice (some ⟨b, 0, none⟩) cap cap, .int .i64 a, .int .i64 n, .int .i64 x] w fun e w' => e = .returned (.tuple #[]) ∧ RowAt w' b (lay l a n x 0) ∧ w.grownBy w' (some b) := by
  have HL := hid hlc; clear hlc
  have hlc2 : a + n ≤ cap := by rw [← HL.out]; exact h
  go_enter Try.func75, Try.ntmps75
  go_wp2
  go_loopw [3, 8] (fun v i wr => ∃ (k : Nat) (y : Int), k ≤ n ∧ i = .int .i64 ((k : Int) - 1) ∧ v = .int .i64 y ∧ Hid (y = shr8 (n - k) x) ∧ RowAt wr b (lay l a n x k) ∧ w.grownBy wr (some b)) (fun _ i _ => (intOf i + 1).toNat)
  case atStart => exact ⟨n, x, Nat.le_refl _, rfl, rfl, by rw [Nat.sub_self]; rfl, by rw [lay_start]; exact hr, grownBy_refl _ _⟩
  case round =>
    obtain ⟨k, y, hk, rfl, rfl, hy, hrow, hg⟩ := hrel
    by_cases h0 : k = 0
    · subst h0
      go_wp2
      go_end0
      exact ⟨rfl, hrow, hg⟩
    · obtain ⟨j, rfl⟩ : ∃ j, k = j + 1 := ⟨k - 1, by omega⟩
      rw [show (((j + 1 : Nat) : Int) - 1) = (j : Int) by omega]
      have hlen : l.length ≤ (lay l a n x (j + 1)).length := by rw [lay_length l a n x (j + 1) hk h]; omega
      have hc := hrow.cell (a + j) (by omega)
      have hf := hrow.free (a + j) (by omega)
      have hst := hrow.store (a + j) (byteOf (shr8 (n - (j + 1)) x)) (by omega)
      rw [lay_set l a n x j (by omega) h, byteOf_toNat, ← hy.out] at hst
      have HST := hid hst; clear hst
      have HN := hid (show y / 256 = shr8 (n - j) x by rw [hy.out, show n - j = (n - (j + 1)) + 1 by omega]; rfl)
      go_wp2
      go_roundw
      case rel => exact ⟨j, y / 256, by omega, rfl, rfl, HN, HST.out, grownBy_set hg _ _⟩
      case measure => (simp [intOf]; try omega)

set_option maxHeartbeats 400000 in
theorem number_ref (s : ByteArray) (w : World) (hn : s.size ≤ 5) :
    Calls Try.prog 72 #[.string s] w fun e w' => e = .returned (.int .i64 (num s.data.toList)) ∧ w = w' := by
  go_enter Try.func72, Try.ntmps72
  go_wp2
  go_loop [3, 4] (fun v i => ∃ (k : Nat) (y : Int), k ≤ s.size ∧ i = .int .i64 (k : Int) ∧ v = .int .i64 y ∧ Hid (y = num (s.data.toList.take k))) (fun _ i => (s.size - intOf i).toNat)
  case atStart => exact ⟨0, 0, Nat.zero_le _, rfl, rfl, rfl⟩
  case round =>
    obtain ⟨k, y, hk, rfl, rfl, hy⟩ := hrel
    have hy0 : 0 ≤ y := by rw [hy.out]; exact num_nonneg _
    by_cases hlt : k < s.size
    · have hy1 : y < 4294967296 := by rw [hy.out]; exact num_take_lt _ k (by omega)
      have hc : (s[k].toNat : Int) < 256 := by have := s[k].toNat_lt; omega
      have H := hid (or_i64 y (s[k].toNat : Int) hy0 (by omega) (by omega) hc)
      have HN := hid (show y * 256 + (s[k].toNat : Int) = num (s.data.toList.take (k + 1)) by rw [hy.out, num_take_succ _ k (by simpa using hlt)]; rfl)
      go_wp2
      go_round
      case rel => exact ⟨k + 1, _, by omega, by go_num, rfl, by rw [H.out]; exact HN⟩
      case measure => (simp [intOf]; try omega)
    · go_wp2
      go_ret
      exact ⟨by rw [hy.out, List.take_of_length_le (by simp; omega)]; rfl, rfl⟩

theorem Try.info_u8 : (Try.prog.info? 5).map (fun i => (i.zero, i.size, i.bytes)) = some (some (.int .u8 0), 1, 1) := by kernel_rfl

set_option maxHeartbeats 400000 in
theorem big_ref (x : Int) (n : Nat) (w : World) (hn : n ≤ 7) (hn1 : 1 ≤ n) :
    Calls Try.prog 40 #[.int .u64 x, .int .i64 n] w fun e w' => e = .returned (str (big n x)) ∧ Below w.heap.size w w' := by
  obtain ⟨i0, hi, hz0, hz1, hz2⟩ := info_parts Try.info_u8
  go_enter Try.func40, Try.ntmps40
  go_wp2
  go_loopw [5, 6] (fun v i wr => ∃ (k : Nat), k ≤ n ∧ i = .int .i64 ((k : Int) - 1) ∧ Below w.heap.size w wr ∧ wr.ownsRow w.heap.size 5 1 v (n - k) ((big (n - k) (shr8 k x)).map bv)) (fun _ i _ => (intOf i + 1).toNat)
  case atStart => exact ⟨n, Nat.le_refl _, rfl, Below.refl _ _, by rw [Nat.sub_self]; exact World.ownsRow_nil _ _ _ _⟩
  case round =>
    obtain ⟨k, hk, rfl, hb, hown⟩ := hrel
    have hsz := hb.size
    by_cases h0 : k = 0
    · subst h0
      rw [Nat.sub_zero] at hown
      obtain ⟨g, cap, rfl, hbg, hrow, hlen⟩ := row_own hown (by omega)
      have hcs := run_str (P := Try.prog) 90 5 9 Try.underlying90 Try.underlying5 Try.underlying9 hrow 0 n cap (by omega)
      rw [List.drop_zero, List.take_of_length_le (by omega)] at hcs
      go_wp2
      go_ret
      exact ⟨rfl, hb⟩
    · obtain ⟨j, rfl⟩ : ∃ j, k = j + 1 := ⟨k - 1, by omega⟩
      rw [show (((j + 1 : Nat) : Int) - 1) = (j : Int) by omega]
      have HC := hid (show [Value.int .u8 (x / 2 ^ (8 * j) % 256)] = [byteOf (shr8 j x)].map bv by simp [bv, byteOf_toNat, shr8_pow])
      go_wp2_with (at_builtin; refine wpList_append_own _ rfl _ _ 90 rfl w.heap.size 5 i0 (.int .u8 0) 1 1 Try.underlying90 hi hz0 hz1 hz2 rfl (by decide) _ _ _ rfl (hown.alloc _) ⟨wr.heap.size, 0, none⟩ 1 1 [.int .u8 (x / 2 ^ (8 * j) % 256)] rfl rfl ?c1 ?c2 ?c3 ?c4 ?c5 ?_)
      case c1 => intro j u h; cases j <;> simp_all [add_plain]
      case c2 => intro u h; simp at h; subst h; rfl
      case c3 => unfold maxLen; omega
      case c4 => omega
      case c5 => simp; omega
      intro v' w1 hown' hgrow _
      have hb' : Below w.heap.size w w1 := (hb.alloc hsz _).grown hgrow (by simp; omega) (fun k hk => (hown.lt k hk).1)
      have hown2 : w1.ownsRow w.heap.size 5 1 v' (n - j) ((big (n - j) (shr8 j x)).map bv) := by
        rw [HC.out, ← List.map_append] at hown'
        rw [show n - j = (n - (j + 1)) + 1 by omega]
        exact hown'
      clear hown'
      go_wp2
      go_roundw
      case rel => exact ⟨j, by omega, rfl, hb', hown2⟩
      case measure => (simp [intOf]; try omega)
end Go.Proofs.Ytegekmdechcikaa
