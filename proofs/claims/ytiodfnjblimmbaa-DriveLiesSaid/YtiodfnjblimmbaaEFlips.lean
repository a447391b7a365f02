/- DriveFlips. -/
import Derived.Test.YtiodfnjblimmbaaEMedia
namespace Go.Proofs.Ytiodfnjblimmbaa
open Go Go.RowKit Go.Sort

def triD (s : Sec) : Dv := ⟨3, [blankSec, s, blankSec], false, false, 0, []⟩
theorem triD_ok (s : Sec) (h : s.data.size = 36) : (triD s).Ok :=
  ⟨by simp [triD], by simp [triD], by simp [triD], fun x hx => by
    simp only [triD, List.mem_cons, List.not_mem_nil, or_false] at hx
    rcases hx with rfl | rfl | rfl
    · rfl
    · exact h
    · rfl, fun f hf => by simp [triD] at hf⟩
theorem tri_new : newDv 3 3 = triD blankSec := rfl
theorem tri_write (s : Sec) (X : ByteArray) (hX : X.size = 36) : (triD s).write 0 1 X = (0, triD ⟨X, false, false⟩) := by
  rw [write_ok rfl (show ¬ (0 : Int) < 0 by decide) rfl hX]; rfl
theorem tri_flip (s : Sec) (b m : Int) (hb : 0 ≤ b ∧ b < 288) (hm : 1 ≤ m ∧ m ≤ 4294967295) : (triD s).inject ⟨4, 1, b, m, 0⟩ = (0, triD (s.flip b m)) := by
  have hv : Dv.valid (triD s).claim ⟨4, 1, b, m, 0⟩ = true := by unfold Dv.valid; simp [triD, hb, hm]
  unfold Dv.inject
  rw [hv]
  rfl
theorem tri_read (s : Sec) (h : s.un = false) : (triD s).read 1 = (s.data, 0) := by
  rw [read_ok rfl rfl (show ((triD s).get 1).un = false from h)]; rfl
theorem tri_read0 (s : Sec) : (triD s).read 0 = (blank, 0) := by
  rw [read_ok rfl rfl rfl]; rfl
theorem flip_twice (X : ByteArray) (b m b2 m2 : Int) : (Sec.flip (Sec.flip ⟨X, false, false⟩ b m) b2 m2) = ⟨flipD X b m, false, true⟩ := rfl
theorem flip_once (X : ByteArray) (b m : Int) : (Sec.flip ⟨X, false, false⟩ b m) = ⟨flipD X b m, false, true⟩ := rfl
theorem mask_of (x : Int) : ∃ m : BitVec 32, 1 + x % 4294967295 = (m.toNat : Int) ∧ 1 ≤ (m.toNat : Int) := by
  have h0 := Int.emod_nonneg x (show (4294967295 : Int) ≠ 0 by decide)
  have h1 := Int.emod_lt_of_pos x (show (0 : Int) < 4294967295 by decide)
  refine ⟨BitVec.ofNat 32 (1 + x % 4294967295).toNat, ?_, ?_⟩ <;> rw [BitVec.toNat_ofNat] <;> omega
theorem flipD_nat (X : ByteArray) (b : Nat) (m : BitVec 32) : (Value.string (flipD X b (m.toNat : Int))) = str (flipL X.data.toList b m 32) := by
  unfold flipD; rw [Int.toNat_natCast, ofInt_bv]
theorem str_self (a : ByteArray) : (!(a.toList == a.toList)) = false := by rw [str_eq]; rfl

/-- A fault lies in block q. -/
def BoxAt (w : World) (q : Nat) (f : Flt) : Prop := w.heap[q]? = some (.cells #[.int .i64 f.kind, .int .i64 f.slot, .int .i64 f.bit, .int .i64 f.mask, .int .i64 f.dest] 49 (0, 0))
theorem BoxAt.lt {w : World} {q : Nat} {f : Flt} (h : BoxAt w q f) : q < w.heap.size := (Array.getElem?_eq_some_iff.1 h).1
theorem BoxAt.fr {w w' : World} {o : Own} {q : Nat} {f : Flt} (h : BoxAt w q f) (hf : Fr o w w') (hq : ¬ o q) : BoxAt w' q f := (hf.block q h.lt hq).trans h
theorem BoxAt.below {w w' : World} {q : Nat} {f : Flt} (h : BoxAt w q f) (hb : Below w.heap.size w w') : BoxAt w' q f := (hb.block q h.lt).trans h
theorem not_grow {o : Own} {w w' : World} {q : Nat} (h : ¬ o q) (hq : q < w.heap.size) : ¬ Grow o w w' q := fun e => by
  rcases e with e | e
  · exact h e
  · omega
theorem BoxAt.cells {w : World} {q : Nat} {f : Flt} (h : BoxAt w q f) : w.cell? ⟨q, 0, none⟩ = some (.int .i64 f.kind) ∧ w.cell? ⟨q, 1, none⟩ = some (.int .i64 f.slot) ∧ w.cell? ⟨q, 2, none⟩ = some (.int .i64 f.bit) ∧ w.cell? ⟨q, 3, none⟩ = some (.int .i64 f.mask) ∧ w.cell? ⟨q, 4, none⟩ = some (.int .i64 f.dest) :=
  ⟨cell_block h 0, cell_block h 1, cell_block h 2, cell_block h 3, cell_block h 4⟩

set_option maxRecDepth 100000 in
set_option maxHeartbeats 2000000 in
theorem law_flips (x : ByteArray) (bit mask bit2 mask2 : Int) (w : World) (hx : x.size ≤ maxLen) :
    Calls Try.prog 6 #[.string x, .int .i64 bit, .int .i64 mask, .int .i64 bit2, .int .i64 mask2] w fun e w' => e = .returned (.bool true) ∧ Below w.heap.size w w' := by
  have HX := hid hx
  clear hx
  by_cases h1 : 100 < x.size
  · go_enter Try.func6, Try.ntmps6
    go_wp2_with (go_at_call 16; refine (awake26 _).mono ?_; rintro e w2 ⟨rfl, hb2⟩)
    go_ret
    exact ⟨rfl, hb2⟩
  · have hx100 : x.size ≤ 100 := by omega
    go_enter Try.func6, Try.ntmps6
    go_wp2_with fail
    refine (new_e 3 3 w (by omega) (by omega) (by omega)).mono ?_
    rintro e w1 ⟨a, rfl, hd1, hb1⟩
    have HA := hid (above_new (w := w) (w' := w1) (Nat.le_refl _))
    have HD := hid hd1
    clear hd1
    generalize Grow NoOwn w w1 = o at HD HA
    go_wp2_with fail
    refine (text_any x _ HX.out).mono ?_
    rintro e w2 ⟨rfl, hb2⟩
    obtain ⟨X, hX, hXs⟩ : ∃ X, secOf x = X ∧ X.size = 36 := ⟨_, rfl, secOf_size x⟩
    rw [hX]
    have hw := hb1.trans (hb2.mono hb1.size)
    have HD2 := hid (HD.out.below hb2)
    clear hb1 hb2 HD hX HX
    have e1 := Int.emod_nonneg bit (show (288 : Int) ≠ 0 by omega)
    have e2 := Int.emod_lt_of_pos bit (show (0 : Int) < 288 by omega)
    have e3 := Int.emod_nonneg bit2 (show (288 : Int) ≠ 0 by omega)
    have e4 := Int.emod_lt_of_pos bit2 (show (0 : Int) < 288 by omega)
    go_wp2_with fail
    refine (within_any bit 288 _ (by omega) (by omega)).mono ?_
    rintro e w3 ⟨rfl, rfl⟩
    generalize bit % 288 = b1 at *
    obtain ⟨bn, rfl⟩ := Int.eq_ofNat_of_zero_le e1
    obtain ⟨cn, hcn⟩ := Int.eq_ofNat_of_zero_le e3
    rw [hcn] at e3 e4
    have HC := hid hcn
    clear hcn
    obtain ⟨m, hm, hm1⟩ := mask_of mask
    obtain ⟨k, hk, hk1⟩ := mask_of mask2
    have hm2 := (u32_range m).2
    have hk2 := (u32_range k).2
    have e5 := Int.emod_nonneg mask (show (4294967295 : Int) ≠ 0 by omega)
    have e7 := Int.emod_nonneg mask2 (show (4294967295 : Int) ≠ 0 by omega)
    have HK := hid hk
    clear hk
    go_wp2_with fail
    refine (within_any mask 4294967295 _ (by omega) (by omega)).mono ?_
    rintro e w3 ⟨rfl, rfl⟩
    go_upto_region 8 with fail
    have q1o : ¬ o w2.heap.size := fun e => by have := HD2.out.under _ e; omega
    have hb3 : Below w2.heap.size w2 (w2.alloc (fltObj ⟨4, 1, bn, m.toNat, 0⟩)) := (Below.refl _ _).alloc (Nat.le_refl _) _
    have bx1 : BoxAt (w2.alloc (fltObj ⟨4, 1, bn, m.toNat, 0⟩)) w2.heap.size ⟨4, 1, bn, m.toNat, 0⟩ := fault_block w2
    have hd3 := HD2.out.below hb3
    have hw3 := hw.trans (hb3.mono hw.size)
    clear hm hb3 HD2 hw
    generalize w2.alloc (.cells #[.int .i64 4, .int .i64 1, .int .i64 bn, .int .i64 m.toNat, .int .i64 0] 49) = w3 at bx1 hd3 hw3 ⊢
    generalize w2.heap.size = q1 at q1o bx1 ⊢
    have B1 := hid bx1
    have HD3 := hid hd3
    clear bx1 hd3
    go_wp2_with fail
    refine (within_any bit2 288 _ (by omega) (by omega)).mono ?_
    rintro e w4 ⟨rfl, rfl⟩
    generalize hg2 : bit2 % 288 = b2 at *
    have hg2' : b2 = (cn : Int) := HC.out
    clear hg2 HC
    subst hg2'
    have hk := HK.out
    go_wp2_with fail
    refine (within_any mask2 4294967295 _ (by omega) (by omega)).mono ?_
    rintro e w4 ⟨rfl, rfl⟩
    go_upto_region 9 with fail
    have q2o : ¬ o w3.heap.size := fun e => by have := HD3.out.under _ e; omega
    have hb4 : Below w3.heap.size w3 (w3.alloc (fltObj ⟨4, 1, cn, k.toNat, 0⟩)) := (Below.refl _ _).alloc (Nat.le_refl _) _
    have bx2 : BoxAt (w3.alloc (fltObj ⟨4, 1, cn, k.toNat, 0⟩)) w3.heap.size ⟨4, 1, cn, k.toNat, 0⟩ := fault_block w3
    have hd4 := HD3.out.below hb4
    have hw4 := hw3.trans (hb4.mono hw3.size)
    have B1' := hid (B1.out.below hb4)
    clear hk hb4 HD3 hw3 B1
    generalize w3.alloc (.cells #[.int .i64 4, .int .i64 1, .int .i64 cn, .int .i64 k.toNat, .int .i64 0] 49) = w4 at bx2 hd4 hw4 B1' ⊢
    generalize w3.heap.size = q2 at q2o bx2 ⊢
    have B2 := hid bx2
    have HD4 := hid hd4
    clear bx2 hd4
    rw [tri_new] at HD4
    have k0 : (triD blankSec).Ok := triD_ok _ rfl
    have k1 : (triD ⟨X, false, false⟩).Ok := triD_ok _ hXs
    have k2 : (triD ⟨flipD X bn m.toNat, false, true⟩).Ok := triD_ok _ (by rw [show (Sec.mk (flipD X bn m.toNat) false true).data = flipD X bn m.toNat from rfl, Dv.flipD_size]; exact hXs)
    have k3 : (triD ⟨flipD X cn k.toNat, false, true⟩).Ok := triD_ok _ (by rw [show (Sec.mk (flipD X cn k.toNat) false true).data = flipD X cn k.toNat from rfl, Dv.flipD_size]; exact hXs)
    have P1 := hid (tri_write blankSec X hXs)
    have P2 := hid (show (triD ⟨X, false, false⟩).inject ⟨4, 1, bn, m.toNat, 0⟩ = (0, triD ⟨flipD X bn m.toNat, false, true⟩) from tri_flip ⟨X, false, false⟩ bn m.toNat ⟨e1, e2⟩ ⟨hm1, hm2⟩)
    have P3 := hid (show (triD ⟨flipD X bn m.toNat, false, true⟩).inject ⟨4, 1, cn, k.toNat, 0⟩ = (0, triD ⟨flipD X bn m.toNat, false, true⟩) from tri_flip ⟨flipD X bn m.toNat, false, true⟩ cn k.toNat ⟨e3, e4⟩ ⟨hk1, hk2⟩)
    have P4 := hid (tri_write ⟨flipD X bn m.toNat, false, true⟩ X hXs)
    have P5 := hid (show (triD ⟨X, false, false⟩).inject ⟨4, 1, cn, k.toNat, 0⟩ = (0, triD ⟨flipD X cn k.toNat, false, true⟩) from tri_flip ⟨X, false, false⟩ cn k.toNat ⟨e3, e4⟩ ⟨hk1, hk2⟩)
    have HXS := hid hXs
    have HF1 := hid (flipD_nat X bn m)
    have HF2 := hid (flipD_nat X cn k)
    have OK := hid (And.intro k0 (And.intro k1 (And.intro k2 k3)))
    clear k0 k1 k2 k3 hXs
    go_wp2_with fail
    refine (write_e HD4.out OK.out.1 0 1 X).mono ?_
    rintro e w5 ⟨rfl, hd5, hf5⟩
    rw [P1.out] at hd5
    rw [P1.out]
    have hw5 := below_of_fr hw4 hf5 HA.out hw4.size
    have HD5 := hid hd5
    have B15 := hid (B1'.out.fr hf5 q1o)
    have B25 := hid (B2.out.fr hf5 q2o)
    clear hd5 hf5 HD4 hw4 B1' B2
    obtain ⟨c0, c1, c2, c3, c4⟩ := B15.out.cells
    obtain ⟨d0, d1, d2, d3, d4⟩ := B25.out.cells
    dsimp only at c0 c1 c2 c3 c4 d0 d1 d2 d3 d4
    go_wp2_with fail
    refine (inject_e HD5.out OK.out.2.1 ⟨4, 1, bn, m.toNat, 0⟩ (Nat.zero_le _)).mono ?_
    rintro e w6 ⟨rfl, hd6, hf6⟩
    rw [P2.out] at hd6
    rw [P2.out]
    have hw6 := below_of_fr hw5 hf6 HA.out hw5.size
    have B16 := hid (B15.out.fr hf6 q1o)
    have B26 := hid (B25.out.fr hf6 q2o)
    have q1o6 := not_grow (w' := w6) q1o B15.out.lt
    have q2o6 := not_grow (w' := w6) q2o B25.out.lt
    have HA6 := hid (hf6.mv.above HA.out hw5.size)
    generalize Grow o w5 w6 = o6 at hd6 q1o6 q2o6 HA6
    have HD6 := hid hd6
    clear hd6 hf6 HD5 hw5 B15 B25 q1o q2o HA c0 c1 c2 c3 c4 d0 d1 d2 d3 d4
    obtain ⟨c0, c1, c2, c3, c4⟩ := B16.out.cells
    obtain ⟨d0, d1, d2, d3, d4⟩ := B26.out.cells
    dsimp only at c0 c1 c2 c3 c4 d0 d1 d2 d3 d4
    go_wp2_with fail
    refine (inject_e HD6.out OK.out.2.2.1 ⟨4, 1, cn, k.toNat, 0⟩ (Nat.zero_le _)).mono ?_
    rintro e w7 ⟨rfl, hd7, hf7⟩
    rw [P3.out] at hd7
    rw [P3.out]
    have hw7 := below_of_fr hw6 hf7 HA6.out hw6.size
    have B17 := hid (B16.out.fr hf7 q1o6)
    have B27 := hid (B26.out.fr hf7 q2o6)
    have q1o7 := not_grow (w' := w7) q1o6 B16.out.lt
    have q2o7 := not_grow (w' := w7) q2o6 B26.out.lt
    have HA7 := hid (hf7.mv.above HA6.out hw6.size)
    generalize Grow o6 w6 w7 = o7 at hd7 q1o7 q2o7 HA7
    have HD7 := hid hd7
    clear hd7 hf7 HD6 hw6 B16 B26 q1o6 q2o6 HA6 c0 c1 c2 c3 c4 d0 d1 d2 d3 d4
    obtain ⟨c0, c1, c2, c3, c4⟩ := B17.out.cells
    obtain ⟨d0, d1, d2, d3, d4⟩ := B27.out.cells
    dsimp only at c0 c1 c2 c3 c4 d0 d1 d2 d3 d4
    go_wp2_with fail
    refine (read_e HD7.out OK.out.2.2.1 1).mono ?_
    rintro e w8 ⟨rfl, n8, rfl⟩
    rw [show Dv.read (triD ⟨flipD X bn m.toNat, false, true⟩) 1 = (flipD X bn m.toNat, 0) from tri_read _ rfl]
    have hw8 := hw7.trans ((below_drew w7 n8).mono hw7.size)
    have HD8 := hid (HD7.out.below (below_drew w7 n8))
    have B18 := hid (B17.out.below (below_drew w7 n8))
    have B28 := hid (B27.out.below (below_drew w7 n8))
    clear HD7 hw7 B17 B27 c0 c1 c2 c3 c4 d0 d1 d2 d3 d4
    obtain ⟨c0, c1, c2, c3, c4⟩ := B18.out.cells
    obtain ⟨d0, d1, d2, d3, d4⟩ := B28.out.cells
    dsimp only at c0 c1 c2 c3 c4 d0 d1 d2 d3 d4
    generalize w7.drewN n8 = w8 at *
    go_wp2_with fail
    refine (flip_any X bn m _ (by rw [HXS.out]; decide) (by omega)).mono ?_
    rintro e w9 ⟨rfl, hb9⟩
    rw [← HF1.out]
    have hw9 := hw8.trans ((hb9).mono hw8.size)
    have HD9 := hid (HD8.out.below (hb9))
    have B19 := hid (B18.out.below (hb9))
    have B29 := hid (B28.out.below (hb9))
    clear HD8 hw8 B18 B28 c0 c1 c2 c3 c4 d0 d1 d2 d3 d4
    obtain ⟨c0, c1, c2, c3, c4⟩ := B19.out.cells
    obtain ⟨d0, d1, d2, d3, d4⟩ := B29.out.cells
    dsimp only at c0 c1 c2 c3 c4 d0 d1 d2 d3 d4
    have hs1 := str_self (flipD X bn m.toNat)
    clear hb9
    go_wp2_with fail
    refine (write_e HD9.out OK.out.2.2.1 0 1 X).mono ?_
    rintro e wA ⟨rfl, hdA, hfA⟩
    rw [P4.out] at hdA
    rw [P4.out]
    have hwA := below_of_fr hw9 hfA HA7.out hw9.size
    have HDA := hid hdA
    have B1A := hid (B19.out.fr hfA q1o7)
    have B2A := hid (B29.out.fr hfA q2o7)
    clear hdA hfA HD9 hw9 B19 B29 c0 c1 c2 c3 c4 d0 d1 d2 d3 d4
    obtain ⟨c0, c1, c2, c3, c4⟩ := B1A.out.cells
    obtain ⟨d0, d1, d2, d3, d4⟩ := B2A.out.cells
    dsimp only at c0 c1 c2 c3 c4 d0 d1 d2 d3 d4
    go_wp2_with fail
    refine (inject_e HDA.out OK.out.2.1 ⟨4, 1, cn, k.toNat, 0⟩ (Nat.zero_le _)).mono ?_
    rintro e wB ⟨rfl, hdB, hfB⟩
    rw [P5.out] at hdB
    rw [P5.out]
    have hwB := below_of_fr hwA hfB HA7.out hwA.size
    have B1B := hid (B1A.out.fr hfB q1o7)
    have B2B := hid (B2A.out.fr hfB q2o7)
    generalize Grow o7 wA wB = oB at hdB
    have HDB := hid hdB
    clear hdB hfB HDA hwA B1A B2A q1o7 q2o7 HA7 c0 c1 c2 c3 c4 d0 d1 d2 d3 d4
    obtain ⟨c0, c1, c2, c3, c4⟩ := B1B.out.cells
    obtain ⟨d0, d1, d2, d3, d4⟩ := B2B.out.cells
    dsimp only at c0 c1 c2 c3 c4 d0 d1 d2 d3 d4
    go_wp2_with fail
    refine (read_e HDB.out OK.out.2.2.2 1).mono ?_
    rintro e wC ⟨rfl, nC, rfl⟩
    rw [show Dv.read (triD ⟨flipD X cn k.toNat, false, true⟩) 1 = (flipD X cn k.toNat, 0) from tri_read _ rfl]
    have hwC := hwB.trans ((below_drew wB nC).mono hwB.size)
    have HDC := hid (HDB.out.below (below_drew wB nC))
    have B1C := hid (B1B.out.below (below_drew wB nC))
    have B2C := hid (B2B.out.below (below_drew wB nC))
    clear HDB hwB B1B B2B c0 c1 c2 c3 c4 d0 d1 d2 d3 d4
    obtain ⟨c0, c1, c2, c3, c4⟩ := B1C.out.cells
    obtain ⟨d0, d1, d2, d3, d4⟩ := B2C.out.cells
    dsimp only at c0 c1 c2 c3 c4 d0 d1 d2 d3 d4
    generalize wB.drewN nC = wC at *
    go_wp2_with fail
    refine (read_e HDC.out OK.out.2.2.2 0).mono ?_
    rintro e wE ⟨rfl, nE, rfl⟩
    rw [tri_read0]
    have hwE := hwC.trans ((below_drew wC nE).mono hwC.size)
    have HDE := hid (HDC.out.below (below_drew wC nE))
    have B1E := hid (B1C.out.below (below_drew wC nE))
    have B2E := hid (B2C.out.below (below_drew wC nE))
    clear HDC hwC B1C B2C c0 c1 c2 c3 c4 d0 d1 d2 d3 d4
    obtain ⟨c0, c1, c2, c3, c4⟩ := B1E.out.cells
    obtain ⟨d0, d1, d2, d3, d4⟩ := B2E.out.cells
    dsimp only at c0 c1 c2 c3 c4 d0 d1 d2 d3 d4
    generalize wC.drewN nE = wE at *
    go_wp2_with fail
    refine (awake26 _).mono ?_
    rintro e wF ⟨rfl, hbF⟩
    have hwF := hwE.trans ((hbF).mono hwE.size)
    have HDF := hid (HDE.out.below (hbF))
    have B1F := hid (B1E.out.below (hbF))
    have B2F := hid (B2E.out.below (hbF))
    clear HDE hwE B1E B2E c0 c1 c2 c3 c4 d0 d1 d2 d3 d4
    obtain ⟨c0, c1, c2, c3, c4⟩ := B1F.out.cells
    obtain ⟨d0, d1, d2, d3, d4⟩ := B2F.out.cells
    dsimp only at c0 c1 c2 c3 c4 d0 d1 d2 d3 d4
    clear hbF
    go_wp2_with fail
    refine (flip_any X cn k _ (by rw [HXS.out]; decide) (by omega)).mono ?_
    rintro e wG ⟨rfl, hbG⟩
    rw [← HF2.out]
    have hwG := hwF.trans (hbG.mono hwF.size)
    have hs2 := str_eq (flipD X cn k.toNat)
    have hs3 := str_eq blank
    clear hbG hwF HDF B1F B2F c0 c1 c2 c3 c4 d0 d1 d2 d3 d4
    go_wp2_with fail
    refine (blank_b _).mono ?_
    rintro e wH ⟨rfl, hbH⟩
    have hwH := hwG.trans (hbH.mono hwG.size)
    clear hbH hwG
    go_wp2
    go_ret
    exact ⟨rfl, hwH⟩
end Go.Proofs.Ytiodfnjblimmbaa
