/- Flip of the reference. -/
import Derived.Test.YtgeopgibjmhehaaDBase
import Derived.Test.YtgeopgibjmhehaaTC
import Derived.Test.YtgeopgibjmhehaaTD
namespace Go.Proofs.Ytgeopgibjmhehaa
open Go.RowKit Go.Sort

end Go.Proofs.Ytgeopgibjmhehaa

/- flip of a cell of the drive. -/
namespace Go.Proofs.Ytgeopgibjmhehaa
open Go Go.RowKit Go.Sort

theorem flipL_done (l : List UInt8) (bit : Nat) (m : BitVec 32) (k j : Nat) (h : 8 * l.length ≤ bit + k) : flipL l bit m (k + j) = flipL l bit m k := by
  induction j with
  | zero => rfl
  | succ j ih => rw [← Nat.add_assoc, flipL, if_neg (by intro hh; omega), ih]
/-- One cell of a sector is stored. -/
theorem SecsAt.poke {w : World} {b : Nat} {l : List Sec} (h : SecsAt w b l) (i j : Nat) (v : Value) (s' : Sec) (hi : i < l.length) (hj : j < 3) (hs : l[i].cells.set j v = s'.cells) : SecsAt (w.setCell ⟨b, i * 3 + j, none⟩ v) b (l.set i s') := by
  refine ⟨by simpa using h.lt, fun i2 hi2 j2 v2 hv2 => ?_, fun i2 hi2 j2 hj2 => ?_⟩
  · rw [List.length_set] at hi2
    have hj2 : j2 < 3 := by
      have := (List.getElem?_eq_some_iff.1 hv2).1
      simpa [Sec.cells] using this
    by_cases e : i = i2
    · subst e
      rw [List.getElem_set_self, ← hs] at hv2
      by_cases e2 : j = j2
      · subst e2
        obtain ⟨u, hu⟩ := Option.isSome_iff_exists.1 (h.free i hi j hj).1
        rw [World.cell?_setCell_same _ _ _ hu]
        rw [List.getElem?_set_self (by simpa [Sec.cells] using hj)] at hv2
        exact hv2
      · rw [World.cell?_setCell_other _ _ _ _ (by intro e; injection e with _ e; omega)]
        rw [List.getElem?_set_ne e2] at hv2
        exact h.range i hi j2 v2 hv2
    · rw [World.cell?_setCell_other _ _ _ _ (by intro e; injection e with _ e; omega)]
      rw [List.getElem_set_ne e] at hv2
      exact h.range i2 hi2 j2 v2 hv2
  · rw [List.length_set] at hi2
    have := h.free i2 hi2 j2 hj2
    refine ⟨?_, by rw [World.frozen?_setCell]; exact this.2⟩
    by_cases e : (⟨b, i * 3 + j, none⟩ : Addr) = ⟨b, i2 * 3 + j2, none⟩
    · obtain ⟨u, hu⟩ := Option.isSome_iff_exists.1 this.1
      rw [← e] at hu ⊢
      rw [World.cell?_setCell_same _ _ _ hu]; rfl
    · rw [World.cell?_setCell_other _ _ _ _ e]; exact this.1

theorem and1_i64 (m : BitVec 32) (j : Nat) : bits .and .i64 ((m.toNat : Int) / 2 ^ j) 1 = if m.getLsbD j = true then 1 else 0 := by
  have e : ((m.toNat : Int) / 2 ^ j) = ((m.toNat / 2 ^ j : Nat) : Int) := by simp
  have hlt : m.toNat / 2 ^ j < 9223372036854775808 := by
    have := Nat.div_le_self m.toNat (2 ^ j)
    have := m.isLt
    omega
  have e1 : ∀ a : Nat, a < 9223372036854775808 → (BitVec.ofInt 64 (a : Int)).toNat = a := fun a ha => by
    rw [BitVec.ofInt_natCast, BitVec.toNat_ofNat]; exact Nat.mod_eq_of_lt (by omega)
  show IntKind.i64.wrap ((BitVec.ofInt 64 ((m.toNat : Int) / 2 ^ j) &&& BitVec.ofInt 64 1).toNat : Int) = _
  rw [e, BitVec.toNat_and, e1 _ hlt, show (BitVec.ofInt 64 1).toNat = 1 from rfl, Nat.and_one_is_mod]
  have h : (m.toNat / 2 ^ j) % 2 = if m.getLsbD j = true then 1 else 0 := by
    rw [BitVec.getLsbD, Nat.testBit_eq_decide_div_mod_eq]
    simp only [decide_eq_true_eq]
    split <;> omega
  rw [h]; split <;> rfl

set_option maxRecDepth 100000 in
set_option maxHeartbeats 2000000 in
theorem flip_cell (b i : Nat) (l : List Sec) (bit : Nat) (m : BitVec 32) (w : World) (h : SecsAt w b l) (hi : i < l.length) (hd : l[i].data.size = 36) (hb : bit < 288) :
    Calls Try.prog 27 #[.pointer (some ⟨b, i * 3, none⟩), .int .i64 bit, .int .i64 (m.toNat : Int)] w fun e w' => e = .returned (.tuple #[]) ∧ SecsAt w' b (l.set i (l[i].flip bit (m.toNat : Int))) ∧ w.grownBy w' (some b) := by
  obtain ⟨c0, c1, c2⟩ := h.cells i hi
  obtain ⟨f0, f1, f2⟩ := h.frees i hi
  obtain ⟨sd, su, sm, hsec⟩ : ∃ sd su sm, l[i] = ⟨sd, su, sm⟩ := ⟨_, _, _, rfl⟩
  rw [hsec] at c0 c1 c2 hd
  rw [hsec]
  dsimp only at c0 c1 c2 hd
  have HSEC := hid hsec
  have HH := hid h
  have hm := u32_range m
  clear h hsec
  cases sm
  case true =>
    go_enter Try.func27, Try.ntmps27
    go_wp2
    refine bodyPost_ret (results_none rfl _ _ _) rfl ?_
    refine ⟨rfl, ?_, grownBy_refl _ _⟩
    have : l.set i (Sec.flip ⟨sd, su, true⟩ bit (m.toNat : Int)) = l := by
      unfold Sec.flip
      rw [if_pos rfl, ← HSEC.out, List.set_getElem_self]
    rw [this]; exact HH.out
  case false =>
    have HD := hid hd
    clear hd
    go_enter Try.func27, Try.ntmps27
    go_wp2_with (refine wpList_bytes rfl (.tmp 15) 9 22 5 rfl Try.underlying9 Try.underlying22 Try.underlying5 sd rfl ?_)
    intro cap w1 hrow hlt hbl
    go_wp2
    go_loopw [7] (fun x wr => ∃ (k : Nat), k ≤ 32 ∧ x = .int .i64 (k : Int) ∧ RowAt wr w.heap.size (flipL sd.data.toList bit m k) ∧ Below w.heap.size w wr) (fun x _ => (32 - intOf x).toNat)
    case atStart => exact ⟨0, by omega, rfl, hrow, hbl⟩
    case round =>
      clear hrow hbl
      obtain ⟨k, hk, rfl, hrow, hbl⟩ := hrel
      have hll := hid (flipL_length sd.data.toList bit m k)
      have hsl : sd.data.toList.length = 36 := by have := HD.out; simpa using this
      have HSL := hid hsl
      clear hsl
      by_cases hgo : k < 32 ∧ bit + k < 288
      · obtain ⟨hlt, hin⟩ := hgo
        by_cases hmb : m.getLsbD (31 - k) = true
        · have hand : bits .and .i64 ((m.toNat : Int) / 2 ^ (31 - k)) 1 = 1 := by rw [and1_i64, if_pos hmb]
          have hx : (bit + k) / 8 < (flipL sd.data.toList bit m k).length := by rw [hll.out, HSL.out]; omega
          have hc := hrow.cell ((bit + k) / 8) hx
          have hf := hrow.free ((bit + k) / 8) hx
          have HST : Hid (∀ n, RowAt ((wr.drewN n).setCell ⟨w.heap.size, (bit + k) / 8, none⟩ (.int .u8 (bits .xor .u8 (((flipL sd.data.toList bit m k)[(bit + k) / 8].toNat : Nat) : Int) (128 / 2 ^ ((bit + k) % 8))))) w.heap.size (flipL sd.data.toList bit m (k + 1))) := by
            refine hid fun n => ?_
            have hst := (hrow.drewN n).store ((bit + k) / 8) ((flipL sd.data.toList bit m k)[(bit + k) / 8] ^^^ topBit ((bit + k) % 8)) hx
            rw [← xor_u8, topBit_toNat _ (by omega)] at hst
            exact hst.eq (show _ = flipL sd.data.toList bit m (k + 1) by
              rw [flipL, if_pos ⟨hmb, by rw [HSL.out]; omega⟩, flipAt, List.getD_eq_getElem?_getD, List.getElem?_eq_getElem hx]; rfl)
          clear hmb
          generalize hgc : (flipL sd.data.toList bit m k)[(bit + k) / 8].toNat = cc at hc HST
          have hc0 : (cc : Int) ≤ 255 := by rw [← hgc]; have := ((flipL sd.data.toList bit m k)[(bit + k) / 8]).toNat_lt; omega
          clear hgc
          go_upto_region 6 with (fail)
          have hw1 : IntKind.i64.wrap ((bit : Int) + (k : Int)) = (bit : Int) + (k : Int) := IntWalk.i64_in _ (by omega)
          have hw2 : ((bit : Int) + (k : Int)).tdiv 8 = (((bit + k) / 8 : Nat) : Int) := by rw [Int.tdiv_eq_ediv_of_nonneg (by omega)]; omega
          have hw3 : ((bit : Int) + (k : Int)).tmod 8 = (((bit + k) % 8 : Nat) : Int) := by rw [Int.tmod_eq_emod_of_nonneg (by omega)]; omega
          have hx1 : (((bit + k) / 8 : Nat) : Int) < (sd.size : Int) := by have := HD.out; omega
          have hx0 : (0 : Int) ≤ (((bit + k) / 8 : Nat) : Int) := by omega
          refine wp_region_quiet_tail 14 (fun w' => ∃ n, w' = wr.drewN n) ⟨1, rfl⟩ (by kernel_rfl) (by kernel_rfl) ?_
          simp only [List.take_succ_cons, List.take_zero, List.drop_succ_cons, List.drop_zero]
          repeat (go_big_quiet_step (fail))
          refine wpQuiet_nil ?_
          rintro _ ⟨nq, rfl⟩
          clear hw1 hw2 hw3
          go_wp2
          go_roundw
          case rel => exact ⟨k + 1, by omega, by go_num, HST.out nq, (hbl.trans ((below_drew wr nq).mono hbl.size)).setCell (Nat.le_refl _) _⟩
          case measure => (simp [intOf]; try omega)
        · have hand : bits .and .i64 ((m.toNat : Int) / 2 ^ (31 - k)) 1 = 0 := by rw [and1_i64, if_neg hmb]
          have hn := hid (show flipL sd.data.toList bit m (k + 1) = flipL sd.data.toList bit m k by rw [flipL, if_neg]; exact fun h => hmb h.1)
          clear hmb
          go_wp2
          all_goals go_roundw
          case rel => exact ⟨k + 1, by omega, by go_num, hrow.eq hn.out.symm, hbl⟩
          case measure => (simp [intOf]; try omega)
      · have hfin : flipL sd.data.toList bit m k = flipL sd.data.toList bit m 32 := by
          by_cases h32 : k = 32
          · rw [h32]
          · have := flipL_done sd.data.toList bit m k (32 - k) (by rw [HSL.out]; omega)
            rw [show k + (32 - k) = 32 by omega] at this
            exact this.symm
        rw [hfin] at hrow
        have hll32 := hid (flipL_length sd.data.toList bit m 32)
        clear hfin hll
        have hss := HH.out.below hbl HH.out.lt
        have hi2 : i < (l.set i ⟨⟨(flipL sd.data.toList bit m 32).toArray⟩, su, false⟩).length := by simpa using hi
        have hp1 := hss.poke i 0 (.string ⟨(flipL sd.data.toList bit m 32).toArray⟩) ⟨⟨(flipL sd.data.toList bit m 32).toArray⟩, su, false⟩ hi (by omega) (by rw [HSEC.out]; rfl)
        have hp2 := hp1.poke i 2 (.bool true) ⟨⟨(flipL sd.data.toList bit m 32).toArray⟩, su, true⟩ hi2 (by omega) (by simp [Sec.cells])
        rw [List.set_set] at hp2
        have hflip : Sec.flip ⟨sd, su, false⟩ bit (m.toNat : Int) = ⟨⟨(flipL sd.data.toList bit m 32).toArray⟩, su, true⟩ := by
          unfold Sec.flip flipD
          rw [if_neg (by simp), Int.toNat_natCast, ofInt_bv]
        have HP2 := hid hp2
        have HF := hid hflip
        obtain ⟨d0, d1, d2⟩ := hss.cells i hi
        rw [HSEC.out] at d0 d1 d2
        obtain ⟨e0, e1, e2⟩ := hss.frees i hi
        have hgr : w.grownBy wr (some b) := ⟨hbl.os, hbl.tape, hbl.output, hbl.size, fun k hk _ => hbl.block k hk⟩
        have HG := hid (grownBy_set (grownBy_set hgr (i * 3 + 0) (.string ⟨(flipL sd.data.toList bit m 32).toArray⟩)) (i * 3 + 2) (.bool true))
        clear hgr hp1 hp2 hflip hss hi2
        have hcs := run_str (P := Try.prog) 22 5 9 Try.underlying22 Try.underlying5 Try.underlying9 hrow 0 sd.size cap (by rw [hll32.out, HSL.out, HD.out]; omega)
        rw [List.drop_zero, List.take_of_length_le (by rw [hll32.out, HSL.out, HD.out]; omega)] at hcs
        by_cases h32 : k < 32
        · have hge : 288 ≤ bit + k := by omega
          clear hgo
          go_wp2
          go_end0
          exact ⟨rfl, by rw [HF.out]; exact HP2.out, HG.out⟩
        · have hge : 32 ≤ k := by omega
          clear hgo
          go_wp2
          go_end0
          exact ⟨rfl, by rw [HF.out]; exact HP2.out, HG.out⟩
end Go.Proofs.Ytgeopgibjmhehaa
