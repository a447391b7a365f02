/- ScrubDetects: the walk. -/
import Derived.Test.YtegekmdechcikaaS23
namespace Go.Proofs.Ytegekmdechcikaa
open Go Go.RowKit Go.Sort

theorem u32_ofInt (x : Int) (h0 : 0 ≤ x) (h1 : x ≤ 4294967295) : ((BitVec.ofInt 32 x).toNat : Int) = x := by rw [BitVec.toNat_ofInt]; omega
/-- A drive and a box that is none of its blocks. -/
structure Lone (w0 : World) (a pb : Nat) (l : List Value) (S : Dv) (w : World) (o : Own) : Prop where
  drv : Drv w o a S
  above : Above w0.heap.size o
  nq : ¬ o pb
  box : ValsAt w pb l
  below : Below w0.heap.size w0 w
theorem Lone.then {w0 w w' : World} {a pb : Nat} {l : List Value} {S : Dv} {o : Own} (h : Lone w0 a pb l S w o) (hb : Below w.heap.size w w') : Lone w0 a pb l S w' o :=
  ⟨h.drv.below hb, h.above, h.nq, h.box.below hb h.box.lt, h.below.trans (hb.mono h.below.size)⟩
theorem Lone.step {w0 w w' : World} {a pb : Nat} {l : List Value} {S T : Dv} {o : Own} (h : Lone w0 a pb l S w o) (hd : Drv w' (Grow o w w') a T) (hf : Fr o w w') : Lone w0 a pb l T w' (Grow o w w') :=
  ⟨hd, hf.mv.above h.above h.below.size, fun e => by
    rcases e with e | e
    · exact h.nq e
    · have := h.box.lt; omega, h.box.fr hf h.nq, below_of_fr h.below hf h.above h.below.size⟩
theorem Lone.keep {w0 w w' : World} {a pb : Nat} {l : List Value} {S T : Dv} {o : Own} (h : Lone w0 a pb l S w o) (hd : Drv w' o a T) (hf : Fr o w w') : Lone w0 a pb l T w' o :=
  ⟨hd, h.above, h.nq, h.box.fr hf h.nq, below_of_fr h.below hf h.above h.below.size⟩
set_option maxRecDepth 100000 in
set_option maxHeartbeats 2000000 in
theorem law_detects (x : Pc) (sl bi ma : Int) (w : World) (hd : x.data.size ≤ maxLen) :
    Calls Try.prog 4 #[x.val, .int .i64 sl, .int .i64 bi, .int .i64 ma] w fun e w' => e = .returned (.bool true) ∧ Below w.heap.size w w' := by
  have HD := hid hd
  clear hd
  have hp := nearP_ok x
  obtain ⟨k, hk⟩ := Int.eq_ofNat_of_zero_le (Int.emod_nonneg sl (show (10 : Int) ≠ 0 by decide))
  obtain ⟨b, hb⟩ := Int.eq_ofNat_of_zero_le (Int.emod_nonneg bi (show (288 : Int) ≠ 0 by decide))
  have hk1 : k < 10 := by have := Int.emod_lt_of_pos sl (show (0 : Int) < 10 by decide); omega
  have hb1 : b < 288 := by have := Int.emod_lt_of_pos bi (show (0 : Int) < 288 by decide); omega
  obtain ⟨y, hy⟩ : ∃ y : Int, ma % 4294967295 = y := ⟨_, rfl⟩
  have hy0 : 0 ≤ y := by have := Int.emod_nonneg ma (show (4294967295 : Int) ≠ 0 by decide); omega
  have hy1 : y < 4294967295 := by have := Int.emod_lt_of_pos ma (show (0 : Int) < 4294967295 by decide); omega
  obtain ⟨mb, hmb⟩ : ∃ mb : BitVec 32, mb = BitVec.ofInt 32 (1 + y) := ⟨_, rfl⟩
  have hmn : (mb.toNat : Int) = 1 + y := by rw [hmb]; exact u32_ofInt _ (by omega) (by omega)
  have hm2 : (mb.toNat : Int) ≤ 4294967295 := by omega
  obtain ⟨S1, S2, S3, HF0⟩ := flipped hp k hk1 (b : Int) (mb.toNat : Int) (by omega) (by omega) (by omega) (by omega)
  have HF := hid HF0
  have HFL := hid (show (⟨(flipL (encP (nearP x)).data.toList b mb 32).toArray⟩ : ByteArray) = flipD (encP (nearP x)) (b : Int) (mb.toNat : Int) by unfold flipD; rw [hmn, ← hmb]; rfl)
  have HK := hid hk
  have HB := hid hb
  have HY := hid hy
  have HMN := hid (show 1 + y = (mb.toNat : Int) from hmn.symm)
  have HP := hid hp
  have HES := hid (encP_size hp)
  have hw : Below w.heap.size w (w.alloc (.cells x.cells.toArray 23)) := (Below.refl _ _).alloc (Nat.le_refl _) _
  have HX := hid (heap_alloc_new w (.cells x.cells.toArray 23))
  have HW := hid hw
  clear hk hb hmn hmb HF0 hp hw hy
  go_enter Try.func4, Try.ntmps4
  go_upto_region 1 with fail
  generalize w.alloc (.cells x.cells.toArray 23) = w0 at *
  have hwl : w.heap.size < w0.heap.size := (Array.getElem?_eq_some_iff.1 HX.out).1
  have HWL := hid hwl
  clear hwl
  go_wp2_with fail
  refine (new_e 10 10 w0 (by omega) (by omega) (by omega)).mono ?_
  rintro e w1 ⟨a, rfl, hd1, hb2⟩
  have HD1 := hid hd1
  have HA1 := hid (above_new (w := w0) (w' := w1) (Nat.le_refl _))
  have HX1 := hid ((hb2.block _ HWL.out).trans HX.out)
  have hw1 := HW.out.trans (hb2.mono HW.out.size)
  clear hd1 hb2 HX HW
  generalize Grow NoOwn w0 w1 = o at *
  have z0 := cell_block HX1.out 0
  have z1 := cell_block HX1.out 1
  have z2 := cell_block HX1.out 2
  have z3 := cell_block HX1.out 3
  have z4 := cell_block HX1.out 4
  have z5 := cell_block HX1.out 5
  simp only [List.getElem?_toArray, List.getElem?_cons_zero, List.getElem?_cons_succ] at z0 z1 z2 z3 z4 z5
  go_wp2_with fail
  refine (near_p x w1 HD.out).mono ?_
  rintro e w2 ⟨rfl, hb2⟩
  have HD2 := hid (HD1.out.below hb2)
  have hw2 := hw1.trans (hb2.mono hw1.size)
  clear hb2 HD1 HX1 hw1 z0 z1 z2 z3 z4 z5
  have hb3 : Below w2.heap.size w2 (w2.alloc (.cells (nearP x).cells.toArray 23)) := (Below.refl _ _).alloc (Nat.le_refl _) _
  have HPB := hid (show ValsAt (w2.alloc (.cells (nearP x).cells.toArray 23)) w2.heap.size (nearP x).cells from vals_new w2 _ _)
  have HD3 := hid (HD2.out.below hb3)
  have hw3 := hw2.trans (hb3.mono hw2.size)
  clear hb3 HD2 hw2
  generalize nearP x = p at *
  go_upto_region 5 with fail
  generalize w2.alloc (.cells p.cells.toArray 23) = w3 at *
  generalize w2.heap.size = pb at *
  have b0 := HPB.out.cell 0 (by simp)
  have b1 := HPB.out.cell 1 (by simp)
  have b2 := HPB.out.cell 2 (by simp)
  have b3 := HPB.out.cell 3 (by simp)
  have b4 := HPB.out.cell 4 (by simp)
  have b5 := HPB.out.cell 5 (by simp)
  simp only [List.getElem_cons_succ, List.getElem_cons_zero] at b0 b1 b2 b3 b4 b5
  go_wp2_with fail
  refine (enc_p p w3 HP.out).mono ?_
  rintro e w4 ⟨rfl, hb4⟩
  have HPB4 := hid (HPB.out.below hb4 HPB.out.lt)
  have HD4 := hid (HD3.out.below hb4)
  have hw4 := hw3.trans (hb4.mono hw3.size)
  clear hb4 HPB HD3 hw3 b0 b1 b2 b3 b4 b5
  generalize hsd : encP p = sd at *
  go_wp2_with fail
  refine (within_any sl 10 w4 (by decide) (by decide)).mono ?_
  rintro e wx ⟨rfl, rfl⟩
  rw [HK.out]
  go_wp2_with fail
  refine (within_any bi 288 w4 (by decide) (by decide)).mono ?_
  rintro e wx ⟨rfl, rfl⟩
  rw [HB.out]
  go_wp2_with fail
  refine (within_any ma 4294967295 w4 (by decide) (by decide)).mono ?_
  rintro e wx ⟨rfl, rfl⟩
  rw [HY.out]
  go_upto_region 7 with fail
  rw [HMN.out]
  have b0 := HPB4.out.cell 0 (by simp)
  have b1 := HPB4.out.cell 1 (by simp)
  have b2 := HPB4.out.cell 2 (by simp)
  have b3 := HPB4.out.cell 3 (by simp)
  have b4 := HPB4.out.cell 4 (by simp)
  have b5 := HPB4.out.cell 5 (by simp)
  simp only [List.getElem_cons_succ, List.getElem_cons_zero] at b0 b1 b2 b3 b4 b5
  have hb5 : Below w4.heap.size w4 (w4.alloc (.cells (Wt.cells ⟨k, p⟩).toArray 36)) := (Below.refl _ _).alloc (Nat.le_refl _) _
  have HL := hid (show Lone w a w4.heap.size (Wt.cells ⟨k, p⟩) (newDv 10 10) (w4.alloc (.cells (Wt.cells ⟨k, p⟩).toArray 36)) o from
    ⟨HD4.out.below hb5, fun j e => Nat.le_trans (Nat.le_of_lt HWL.out) (HA1.out j e), fun e => by have := HD4.out.under _ e; omega, vals_new w4 _ _, hw4.trans (hb5.mono hw4.size)⟩)
  clear hb5 HD4 hw4
  go_upto_region 8 with fail
  generalize w4.alloc (.cells (Wt.cells ⟨k, p⟩).toArray 36) = w5 at *
  generalize w4.heap.size = wb at *
  clear b0 b1 b2 b3 b4 b5 HPB4
  go_wp2_with fail
  refine (write_e HL.out.drv (newDv_ok 10 10 (by omega) (by omega) (by omega)) 0 (k : Int) sd).mono ?_
  rintro e w6 ⟨rfl, hd6, hf6⟩
  have hw1 := HF.out.w1
  rw [hsd] at hw1
  rw [hw1] at hd6 ⊢
  clear hw1
  have HL6 := hid (HL.out.keep hd6 hf6)
  clear hd6 hf6 HL
  obtain ⟨b0, b1, b2, b3, b4, b5, b6⟩ := want_cells HL6.out.box
  go_wp2_with fail
  refine (good_any HL6.out.drv HF.out.ok1 ⟨k, p⟩).mono ?_
  rintro e w7 ⟨rfl, hb7⟩
  rw [HF.out.good1]
  have HL7 := hid (HL6.out.then hb7)
  clear hb7 HL6 b0 b1 b2 b3 b4 b5 b6
  go_wp2_with fail
  refine (inject_e HL7.out.drv HF.out.ok1 ⟨4, k, b, mb.toNat, 0⟩ (by rw [HF.out.p1]; simp)).mono ?_
  rintro e w8 ⟨rfl, hd8, hf8⟩
  rw [HF.out.inj] at hd8 ⊢
  have HL8 := hid (HL7.out.step hd8 hf8)
  clear hd8 hf8 HL7
  generalize Grow o w7 w8 = o8 at *
  obtain ⟨b0, b1, b2, b3, b4, b5, b6⟩ := want_cells HL8.out.box
  go_wp2_with fail
  have hb9 : Below w8.heap.size w8 (w8.alloc (.cells (Wt.cells ⟨k, p⟩).toArray 36)) := (Below.refl _ _).alloc (Nat.le_refl _) _
  have hwa := wants_new (l := [⟨k, p⟩]) (heap_alloc_new w8 (.cells (Wt.cells ⟨k, p⟩).toArray 36)) (by simp [maxLen]) 1
  refine (classify_all (HL8.out.drv.below hb9) HF.out.ok2 hwa (by simp)).mono ?_
  rintro e w9 ⟨v9, rfl, hv9, hb10⟩
  have HL9 := hid ((HL8.out.then hb9).then hb10)
  clear hb9 hb10 hwa HL8 b0 b1 b2 b3 b4 b5 b6
  rw [show List.map (stateOf S2) [⟨k, p⟩] = [stateOf S2 ⟨k, p⟩] from rfl] at hv9
  have HV9 := hid hv9
  clear hv9
  go_wp2_with fail
  refine (inventory_any HL9.out.drv HF.out.ok2).mono ?_
  rintro e wA ⟨vA, rfl, hvA, hbA⟩
  rw [if_pos HF.out.on2]
  have HLA := hid (HL9.out.then hbA)
  have HVA := hid (OwnSl.below HV9.out hbA)
  obtain ⟨A1, cA, rfl, _⟩ := OwnSl.form hvA
  clear hbA HL9 HV9 hvA
  generalize New w8 = own9 at *
  obtain ⟨g, off, cc, rfl, y0⟩ := ints_1 HVA.out
  have hbn : b < 8000 := by omega
  go_wp2_with fail
  refine (flip_any sd b mb _ (by rw [HES.out]; decide) hbn).mono ?_
  rintro e wB ⟨rfl, hbB⟩
  rw [show str (flipL sd.data.toList b mb 32) = .string (flipD sd (b : Int) (mb.toNat : Int)) from congrArg Value.string HFL.out]
  have HLB := hid (HLA.out.then hbB)
  have HVB := hid (OwnSl.below HVA.out hbB)
  clear hbB HLA HVA y0
  by_cases he : flipD sd (b : Int) (mb.toNat : Int) = sd
  · have hst := HF.out.same (by rw [hsd]; exact he)
    have hse := str_eq sd
    rw [he]
    have HST := hid hst
    clear he hst
    go_wp2_with fail
    refine (awake27 _).mono ?_
    rintro e wC ⟨rfl, hbC⟩
    have HW := hid (HLB.out.then hbC).below
    have HVC := OwnSl.below HVB.out hbC
    rw [HST.out.1] at HVC
    obtain ⟨g2, off2, cc2, e2, y0⟩ := ints_1 HVC
    injection e2 with e3 e4 e5
    injection e3 with e3
    injection e3 with e3 e6
    subst e3; subst e6
    have hil := HST.out.2
    clear HVC hbC HLB HVB HST
    go_wp2
    go_ret
    exact ⟨by simp [hil], HW.out⟩
  · have hst := HF.out.diff (by rw [hsd]; exact he)
    have hse := str_ne he
    have HST := hid hst
    clear he hst
    have HVC := HVB.out
    rw [HST.out.1] at HVC
    obtain ⟨g2, off2, cc2, e2, y0⟩ := ints_1 HVC
    injection e2 with e3 e4 e5
    injection e3 with e3
    injection e3 with e3 e6
    subst e3; subst e6
    rw [show (invOf S2).length = 0 by rw [HST.out.2]; rfl]
    obtain ⟨b0, b1, b2, b3, b4, b5, b6⟩ := want_cells HLB.out.box
    clear HVC HVB
    go_wp2_with fail
    refine (good_any HLB.out.drv HF.out.ok2 ⟨k, p⟩).mono ?_
    rintro e wC ⟨rfl, hbC⟩
    rw [HST.out.1, show isGood 3 = false from rfl]
    have HLC := hid (HLB.out.then hbC)
    clear hbC HLB y0 b0 b1 b2 b3 b4 b5 b6
    go_wp2_with fail
    refine (write_e HLC.out.drv HF.out.ok2 0 (k : Int) sd).mono ?_
    rintro e wD ⟨rfl, hdD, hfD⟩
    have hw3 := HF.out.w3
    rw [hsd] at hw3
    rw [hw3] at hdD ⊢
    clear hw3
    have HLD := hid (HLC.out.keep hdD hfD)
    clear hdD hfD HLC
    go_wp2_with fail
    refine (awake27 _).mono ?_
    rintro e wE ⟨rfl, hbE⟩
    have HLE := hid (HLD.out.then hbE)
    clear hbE HLD
    obtain ⟨b0, b1, b2, b3, b4, b5, b6⟩ := want_cells HLE.out.box
    go_wp2_with fail
    refine (good_any HLE.out.drv HF.out.ok3 ⟨k, p⟩).mono ?_
    rintro e wF ⟨rfl, hbF⟩
    rw [HF.out.good3]
    have HW := hid (HLE.out.then hbF).below
    clear hbF HLE b0 b1 b2 b3 b4 b5 b6
    go_wp2
    go_ret
    exact ⟨rfl, HW.out⟩
end Go.Proofs.Ytegekmdechcikaa
