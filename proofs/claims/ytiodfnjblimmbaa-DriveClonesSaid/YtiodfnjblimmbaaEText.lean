/- Text: a sector of a string; the sanity check. -/
import Derived.Test.YtiodfnjblimmbaaESame
namespace Go.Proofs.Ytiodfnjblimmbaa
open Go Go.RowKit Go.Sort

/-- The first 36 bytes, filled up with zero bytes: after k rounds. -/
def txt (l : List UInt8) (k : Nat) : List UInt8 := l.take k ++ List.replicate (36 - k) 0
theorem txt_length (l : List UInt8) (k : Nat) (h : k ≤ 36) (hk : k ≤ l.length) : (txt l k).length = 36 := by simp [txt]; omega
theorem txt_set (l : List UInt8) (k : Nat) (h : k < 36) (hk : k < l.length) : (txt l k).set k l[k] = txt l (k + 1) := by
  unfold txt
  rw [List.set_append, List.take_succ_eq_append_getElem hk]
  have hl : (l.take k).length = k := by simp; omega
  rw [if_neg (by omega), hl, Nat.sub_self]
  obtain ⟨m, hm⟩ : ∃ m, 36 - k = m + 1 := ⟨36 - k - 1, by omega⟩
  rw [hm, show 36 - (k + 1) = m by omega, List.replicate_succ, List.append_assoc]
  rfl
/-- The sector of a string. -/
def secOf (s : ByteArray) : ByteArray := ⟨(txt s.data.toList (min 36 s.size)).toArray⟩
theorem secOf_size (s : ByteArray) : (secOf s).size = 36 := txt_length _ _ (by omega) (by simp; omega)

theorem Try.make36t : ∀ w, (Instr.makeSlice 75 (.int .i64 36) (.int .i64 36)).run Try.prog w = .ok (.slice (some ⟨w.heap.size, 0, none⟩) 36 36) (w.alloc (.cells (row (zeros 36)) 5)) := fun _ => by kernel_rfl

set_option maxRecDepth 100000 in
set_option maxHeartbeats 1000000 in
theorem text_any (d : ByteArray) (w : World) (hd : d.size ≤ maxLen) :
    Calls Try.prog 17 #[.string d] w fun e w' => e = .returned (.string (secOf d)) ∧ Below w.heap.size w w' := by
  unfold maxLen at hd
  have hmk := Try.make36t
  go_enter Try.func17, Try.ntmps17
  go_wp2
  have hr0 : RowAt (w.alloc (.cells (row (zeros 36)) 5)) w.heap.size (txt d.data.toList 0) := by
    have := row_new w (zeros 36) 5
    simpa [txt, zeros] using this
  have hb0 : Below w.heap.size w (w.alloc (.cells (row (zeros 36)) 5)) := (Below.refl _ _).alloc (Nat.le_refl _) _
  clear hmk
  go_loopw [4] (fun i wr => ∃ (k : Nat), k ≤ 36 ∧ k ≤ d.size ∧ i = .int .i64 (k : Int) ∧ RowAt wr w.heap.size (txt d.data.toList k) ∧ Below w.heap.size w wr) (fun i _ => (36 - intOf i).toNat)
  case atStart => exact ⟨0, Nat.zero_le _, Nat.zero_le _, rfl, hr0, hb0⟩
  case round =>
    clear hr0 hb0
    obtain ⟨k, hk, hkd, rfl, hrow, hb⟩ := hrel
    have hlen : 36 ≤ (txt d.data.toList k).length := by rw [txt_length _ k hk (by simpa using hkd)]; omega
    by_cases hgo : k < 36 ∧ k < d.size
    · obtain ⟨h16, hkl⟩ := hgo
      have hc := hrow.cell k (by omega)
      have hf := hrow.free k (by omega)
      have hst := hrow.store k d[k] (by omega)
      have e : (txt d.data.toList k).set k d[k] = txt d.data.toList (k + 1) := txt_set d.data.toList k h16 (by simpa using hkl)
      rw [e] at hst
      have HST := hid hst; clear hst e
      go_wp2
      go_roundw
      case rel => exact ⟨k + 1, by omega, by omega, by go_num, HST.out, hb.setCell (by simp) _⟩
      case measure => (simp [intOf]; try omega)
    · have hm : min 36 d.size = k := by omega
      have HM := hid hm; clear hm
      have hcs := run_str (P := Try.prog) 75 5 9 Try.underlying75 Try.underlying5 Try.underlying9 hrow 0 36 36 (by omega)
      rw [List.drop_zero, List.take_of_length_le (by rw [txt_length _ _ hk (by simpa using hkd)]; omega)] at hcs
      by_cases h36 : k < 36
      · have hge : d.size ≤ k := by omega
        clear hgo
        go_wp2
        go_ret
        exact ⟨by unfold secOf; rw [HM.out]; rfl, hb⟩
      · have hge : 36 ≤ k := by omega
        clear hgo
        go_wp2
        go_ret
        exact ⟨by unfold secOf; rw [HM.out]; rfl, hb⟩

theorem blank_b (w : World) :
    Calls Try.prog 28 #[] w fun e w' => e = .returned (.string blank) ∧ Below w.heap.size w w' := by
  have hmk := Try.make36t
  have hcs := run_str (P := Try.prog) 75 5 9 Try.underlying75 Try.underlying5 Try.underlying9 (row_new w (zeros 36) 5) 0 36 36 (by simp [zeros])
  rw [List.drop_zero, List.take_of_length_le (by simp [zeros])] at hcs
  go_enter Try.func28, Try.ntmps28
  go_wp2
  go_ret
  exact ⟨rfl, (Below.refl _ _).alloc (Nat.le_refl _) _⟩

def awX : ByteArray := secOf ⟨#[120]⟩
def awS0 : Dv := newDv 8 3
def awS1 : Dv := ⟨8, [blankSec, ⟨awX, false, false⟩, blankSec], false, false, 2, []⟩
theorem aw1 : awS0.write 2 7 awX = (0, awS1) := by kernel_rfl
theorem aw2 : awS1.read 4 = (awX, 0) := by kernel_rfl
theorem aw3 : awS1.write 1 0 awX = (106, awS1) := by kernel_rfl
theorem aw4 : awS1.online = true ∧ awS1.dead = false ∧ awS1.term = 2 := by refine ⟨?_, ?_, ?_⟩ <;> kernel_rfl
theorem awX_size : awX.size = 36 := secOf_size _
theorem awOk0 : awS0.Ok := newDv_ok 8 3 (by decide) (by decide) (by decide)
theorem awOk1 : awS1.Ok := by have := awOk0.write 2 7 awX; rw [aw1] at this; exact this

theorem below_of_fr {w0 w1 w2 : World} {B : Nat} {o : Own} (h : Below B w0 w1) (k : Fr o w1 w2) (ho : Above B o) (hB : B ≤ w1.heap.size) : Below B w0 w2 := h.trans (k.below ho hB)
theorem above_new {w w' : World} {B : Nat} (hB : B ≤ w.heap.size) : Above B (Grow NoOwn w w') := fun k e => by
  rcases e with e | e
  · exact e.elim
  · omega

set_option maxRecDepth 100000 in
set_option maxHeartbeats 1000000 in
theorem awake26 (w : World) :
    Calls Try.prog 16 #[] w fun e w' => e = .returned (.bool true) ∧ Below w.heap.size w w' := by
  go_enter Try.func16, Try.ntmps16
  go_wp2_with fail
  refine (new_e 8 3 w (by omega) (by omega) (by omega)).mono ?_
  rintro e w1 ⟨a, rfl, hd1, hb1⟩
  have HD1 := hid hd1
  have HA := hid (above_new (w := w) (w' := w1) (Nat.le_refl _))
  have HX : Hid (secOf ⟨#[120]⟩ = awX) := hid rfl
  clear hd1
  generalize Grow NoOwn w w1 = o at HD1 HA
  go_wp2_with fail
  refine (text_any ⟨#[120]⟩ w1 (by unfold maxLen; decide)).mono ?_
  rintro e w2 ⟨rfl, hb2⟩
  rw [HX.out]
  have hd2 : Drv w2 o a awS0 := HD1.out.below hb2
  have hw2 := hb1.trans (hb2.mono hb1.size)
  clear HD1 hb1 hb2
  have HD2 := hid hd2
  clear hd2
  go_wp2_with fail
  refine (write_e HD2.out awOk0 2 7 awX).mono ?_
  rintro e w3 ⟨rfl, hd3, hk3⟩
  rw [aw1] at hd3
  rw [aw1]
  have hw3 := below_of_fr hw2 hk3 HA.out hw2.size
  have HD3 := hid hd3
  clear hd3 HD2 hk3 hw2
  go_wp2_with fail
  refine (read_e HD3.out awOk1 4).mono ?_
  rintro e w4 ⟨rfl, n4, rfl⟩
  rw [aw2]
  have HD4 := hid (HD3.out.below (below_drew w3 n4))
  have hw4 := hw3.trans ((below_drew w3 n4).mono hw3.size)
  clear HD3 hw3
  go_wp2_with fail
  refine (write_e HD4.out awOk1 1 0 awX).mono ?_
  rintro e w5 ⟨rfl, hd5, hk5⟩
  rw [aw3] at hd5
  rw [aw3]
  have hw5 := below_of_fr hw4 hk5 HA.out hw4.size
  have HD5 := hid hd5
  clear hd5 HD4 hk5 hw4
  go_wp2_with fail
  refine (status_e HD5.out awOk1).mono ?_
  rintro e w6 ⟨rfl, hb6⟩
  rw [aw4.1, aw4.2.1, aw4.2.2]
  have hw6 := hw5.trans (hb6.mono hw5.size)
  clear hb6 HD5 hw5
  go_wp2
  go_ret
  exact ⟨rfl, hw6⟩
end Go.Proofs.Ytiodfnjblimmbaa
