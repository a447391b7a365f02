/- Flip of the reference. -/
import Derived.Test.YtegekmdechcikaaDBase
import Derived.Test.YtegekmdechcikaaFlipPlain
namespace Go.Proofs.Ytegekmdechcikaa
open Go.RowKit Go.Sort

set_option maxHeartbeats 1000000 in
theorem flip_any (s : ByteArray) (bit : Nat) (m : BitVec 32) (w : World) (hs : s.size ≤ 1000) (hb : bit < 8000) :
    Calls Try.prog 22 #[.string s, .int .i64 bit, .int .u32 (m.toNat : Int)] w fun e w' => e = .returned (str (flipL s.data.toList bit m 32)) ∧ Below w.heap.size w w' := by
  have hm := u32_range m
  go_enter Try.func22, Try.ntmps22
  go_wp2_with (refine wpList_bytes rfl (.tmp 10) 9 90 5 rfl Try.underlying9 Try.underlying90 Try.underlying5 s rfl ?_)
  intro cap w1 hrow hlt hbl
  go_wp2
  go_loopw [8] (fun i wr => ∃ (k : Nat), k ≤ 32 ∧ i = .int .i64 (k : Int) ∧ RowAt wr w.heap.size (flipL s.data.toList bit m k) ∧ Below w.heap.size w wr) (fun i _ => (32 - intOf i).toNat)
  case atStart => exact ⟨0, by omega, rfl, hrow, hbl⟩
  case round =>
    clear hrow hbl
    obtain ⟨k, hk, rfl, hrow, hbl⟩ := hrel
    have hll := hid (flipL_length s.data.toList bit m k)
    have hsl : s.data.toList.length = s.size := by simp
    have HSL := hid hsl
    clear hsl
    by_cases hlt : k < 32
    · by_cases hmb : m.getLsbD (31 - k) = true
      · have hand : bits .and .u32 ((m.toNat : Int) / 2 ^ (31 - k)) 1 = 1 := by rw [and1_u32, if_pos hmb]
        by_cases hin : bit + k < 8 * s.size
        · have hx : (bit + k) / 8 < (flipL s.data.toList bit m k).length := by rw [hll.out, HSL.out]; omega
          have hc := hrow.cell ((bit + k) / 8) hx
          have hf := hrow.free ((bit + k) / 8) hx
          have hst := hrow.store ((bit + k) / 8) ((flipL s.data.toList bit m k)[(bit + k) / 8] ^^^ topBit ((bit + k) % 8)) hx
          rw [← xor_u8, topBit_toNat _ (by omega)] at hst
          have hst2 := hst.eq (show _ = flipL s.data.toList bit m (k + 1) by
            rw [flipL, if_pos ⟨hmb, by rw [HSL.out]; exact hin⟩, flipAt, List.getD_eq_getElem?_getD, List.getElem?_eq_getElem hx]; rfl)
          have HST := hid hst2
          clear hst hst2 hmb
          generalize hgc : (flipL s.data.toList bit m k)[(bit + k) / 8].toNat = c at hc HST
          have hc0 : (c : Int) ≤ 255 := by rw [← hgc]; have := ((flipL s.data.toList bit m k)[(bit + k) / 8]).toNat_lt; omega
          clear hgc
          go_wp2
          all_goals go_roundw
          case rel => exact ⟨k + 1, by omega, by go_num, HST.out, hbl.setCell (Nat.le_refl _) _⟩
          case measure => (simp [intOf]; try omega)
        · have hn := hid (show flipL s.data.toList bit m (k + 1) = flipL s.data.toList bit m k by rw [flipL, if_neg]; rw [HSL.out]; exact fun h => hin h.2)
          clear hmb
          go_wp2
          all_goals go_roundw
          case rel => exact ⟨k + 1, by omega, by go_num, hrow.eq hn.out.symm, hbl⟩
          case measure => (simp [intOf]; try omega)
      · have hand : bits .and .u32 ((m.toNat : Int) / 2 ^ (31 - k)) 1 = 0 := by rw [and1_u32, if_neg hmb]
        have hn := hid (show flipL s.data.toList bit m (k + 1) = flipL s.data.toList bit m k by rw [flipL, if_neg]; exact fun h => hmb h.1)
        clear hmb
        go_wp2
        all_goals go_roundw
        case rel => exact ⟨k + 1, by omega, by go_num, hrow.eq hn.out.symm, hbl⟩
        case measure => (simp [intOf]; try omega)
    · obtain rfl : k = 32 := by omega
      have hcs := run_str (P := Try.prog) 90 5 9 Try.underlying90 Try.underlying5 Try.underlying9 hrow 0 s.size cap (by rw [hll.out, HSL.out]; omega)
      rw [List.drop_zero, List.take_of_length_le (by rw [hll.out, HSL.out]; omega)] at hcs
      go_wp2
      go_ret
      exact ⟨rfl, hbl⟩
end Go.Proofs.Ytegekmdechcikaa
