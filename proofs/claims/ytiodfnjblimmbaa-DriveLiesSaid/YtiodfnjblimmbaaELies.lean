/- DriveLies. -/
import Derived.Test.YtiodfnjblimmbaaEFlips
namespace Go.Proofs.Ytiodfnjblimmbaa
open Go Go.RowKit Go.Sort

def six (l : List Sec) (p : List Flt) : Dv := ⟨6, l, false, false, 0, p⟩
theorem six_ok (l : List Sec) (p : List Flt) (hl : l.length = 6) (hd : ∀ s ∈ l, s.data.size = 36) (hp : ∀ f ∈ p, f.kind = 5 ∨ (0 ≤ f.dest ∧ f.dest < 6)) : (six l p).Ok :=
  ⟨by simp [six, hl], by simp [six, hl], by simp [six], hd, hp⟩
theorem six_write (l : List Sec) (p : List Flt) (s : Int) (X : ByteArray) (h0 : 0 ≤ s) (h1 : s < 6) (hX : X.size = 36) : (six l p).write 0 s X = (0, (six l p).store s X) := by
  rw [write_ok rfl (show ¬ (0 : Int) < 0 by decide) (slot_in h0 h1) hX]; rfl
theorem six_at (l : List Sec) (p : List Flt) (k : Nat) (hl : l.length = 6) (hk : k < 6) : (six l p).at_ (k : Int) = k := by
  unfold Dv.at_
  show ((k : Int) % (l.length : Int)).toNat = k
  rw [hl]; omega
theorem six_put (l : List Sec) (p : List Flt) (k : Nat) (x : Sec) (hl : l.length = 6) (hk : k < 6) : (six l p).put (k : Int) x = six (l.set k x) p := by
  unfold Dv.put; rw [six_at l p k hl hk]; rfl
theorem lies_plain (X Y Z : ByteArray) (a b : Nat) (ha : a < 6) (hb : b < 6) (hX : X.size = 36) (hY : Y.size = 36) (hZ : Z.size = 36) :
    ∃ S1 S2 S3 S4 S5 : Dv, (newDv 6 6).inject ⟨5, 0, 0, 0, 0⟩ = (0, S1) ∧ S1.inject ⟨6, 0, 0, 0, a⟩ = (0, S2) ∧ S2.write 0 b X = (0, S3) ∧ S3.platters = List.replicate 6 blank ∧
      S3.write 0 b Y = (0, S4) ∧ S4.platters = (List.replicate 6 blank).set a Y ∧ S4.write 0 b Z = (0, S5) ∧ S5.platters = ((List.replicate 6 blank).set a Y).set b Z ∧
      (S1.Ok ∧ S1.pend.length = 1) ∧ S2.Ok ∧ S3.Ok ∧ S4.Ok ∧ S5.Ok := by
  have hbl : blank.size = 36 := rfl
  have hd0 : ∀ s ∈ List.replicate 6 blankSec, s.data.size = 36 := fun s hs => by rw [(List.mem_replicate.1 hs).2]; rfl
  have hd1 : ∀ s ∈ (List.replicate 6 blankSec).set a ⟨Y, false, false⟩, s.data.size = 36 := fun s hs => by
    rcases List.mem_or_eq_of_mem_set hs with e | e
    · exact hd0 s e
    · rw [e]; exact hY
  have hd2 : ∀ s ∈ ((List.replicate 6 blankSec).set a ⟨Y, false, false⟩).set b ⟨Z, false, false⟩, s.data.size = 36 := fun s hs => by
    rcases List.mem_or_eq_of_mem_set hs with e | e
    · exact hd1 s e
    · rw [e]; exact hZ
  have hp : ∀ f ∈ [(⟨6, 0, 0, 0, a⟩ : Flt)], f.kind = 5 ∨ (0 ≤ f.dest ∧ f.dest < 6) := fun f hf => by
    rw [List.mem_singleton] at hf; subst hf; exact .inr ⟨Int.natCast_nonneg _, show (a : Int) < 6 by omega⟩
  refine ⟨six (List.replicate 6 blankSec) [⟨5, 0, 0, 0, 0⟩], six (List.replicate 6 blankSec) [⟨5, 0, 0, 0, 0⟩, ⟨6, 0, 0, 0, a⟩], six (List.replicate 6 blankSec) [⟨6, 0, 0, 0, a⟩],
    six ((List.replicate 6 blankSec).set a ⟨Y, false, false⟩) [], six (((List.replicate 6 blankSec).set a ⟨Y, false, false⟩).set b ⟨Z, false, false⟩) [], rfl, ?_, ?_, ?_, ?_, ?_, ?_, ?_, ⟨?_, rfl⟩, ?_, ?_, ?_, ?_⟩
  · have hv : Dv.valid (6 : Int) ⟨6, 0, 0, 0, a⟩ = true := by unfold Dv.valid; simp; omega
    unfold Dv.inject
    rw [show (six (List.replicate 6 blankSec) [⟨5, 0, 0, 0, 0⟩]).claim = 6 from rfl, hv]
    rfl
  · rw [six_write _ _ _ _ (by omega) (by omega) hX]; rfl
  · rfl
  · rw [six_write _ _ _ _ (by omega) (by omega) hY]
    show (0, Dv.put (six (List.replicate 6 blankSec) []) (a : Int) ⟨Y, false, false⟩) = _
    rw [six_put _ _ _ _ (by simp) ha]
  · unfold Dv.platters
    rw [if_neg (by simp [six])]
    show List.map _ ((List.replicate 6 blankSec).set a ⟨Y, false, false⟩) = _
    rw [List.map_set]; rfl
  · rw [six_write _ _ _ _ (by omega) (by omega) hZ]
    show (0, Dv.put (six ((List.replicate 6 blankSec).set a ⟨Y, false, false⟩) []) (b : Int) ⟨Z, false, false⟩) = _
    rw [six_put _ _ _ _ (by simp) hb]
  · unfold Dv.platters
    rw [if_neg (by simp [six])]
    show List.map _ (((List.replicate 6 blankSec).set a ⟨Y, false, false⟩).set b ⟨Z, false, false⟩) = _
    rw [List.map_set, List.map_set]; rfl
  · exact six_ok _ _ (by simp) hd0 (fun f hf => by rw [List.mem_singleton] at hf; subst hf; exact .inl rfl)
  · exact six_ok _ _ (by simp) hd0 (fun f hf => by
      rcases List.mem_cons.1 hf with e | e
      · subst e; exact .inl rfl
      · exact hp f e)
  · exact six_ok _ _ (by simp) hd0 hp
  · exact six_ok _ _ (by simp) hd1 (fun f hf => by simp at hf)
  · exact six_ok _ _ (by simp) hd2 (fun f hf => by simp at hf)

set_option maxRecDepth 100000 in
set_option maxHeartbeats 2000000 in
theorem law_lies (x y z : ByteArray) (to_ slot : Int) (w : World) (hx : x.size ≤ maxLen) (hy : y.size ≤ maxLen) (hz : z.size ≤ maxLen) :
    Calls Try.prog 8 #[.string x, .string y, .string z, .int .i64 to_, .int .i64 slot] w fun e w' => e = .returned (.bool true) ∧ Below w.heap.size w w' := by
  have HX := hid hx
  have HY := hid hy
  have HZ := hid hz
  clear hx hy hz
  by_cases hlong : 100 < x.size ∨ 100 < y.size ∨ 100 < z.size
  · by_cases h1 : 100 < x.size
    · clear hlong
      go_enter Try.func8, Try.ntmps8
      go_wp2_with (go_at_call 16; refine (awake26 _).mono ?_; rintro e w2 ⟨rfl, hb2⟩)
      go_ret
      exact ⟨rfl, hb2⟩
    · by_cases h2 : 100 < y.size
      · clear hlong
        go_enter Try.func8, Try.ntmps8
        go_wp2_with (go_at_call 16; refine (awake26 _).mono ?_; rintro e w2 ⟨rfl, hb2⟩)
        go_ret
        exact ⟨rfl, hb2⟩
      · have h3 : 100 < z.size := by omega
        clear hlong
        go_enter Try.func8, Try.ntmps8
        go_wp2_with (go_at_call 16; refine (awake26 _).mono ?_; rintro e w2 ⟨rfl, hb2⟩)
        go_ret
        exact ⟨rfl, hb2⟩
  · have hx100 : x.size ≤ 100 := by omega
    have hy100 : y.size ≤ 100 := by omega
    have hz100 : z.size ≤ 100 := by omega
    clear hlong
    go_enter Try.func8, Try.ntmps8
    go_wp2_with fail
    refine (new_e 6 6 w (by omega) (by omega) (by omega)).mono ?_
    rintro e w1 ⟨a, rfl, hd1, hb1⟩
    have HA := hid (above_new (w := w) (w' := w1) (Nat.le_refl _))
    have HD := hid hd1
    clear hd1
    generalize Grow NoOwn w w1 = o at HD HA
    have e1 := Int.emod_nonneg to_ (show (6 : Int) ≠ 0 by omega)
    have e2 := Int.emod_lt_of_pos to_ (show (0 : Int) < 6 by omega)
    have e3 := Int.emod_nonneg slot (show (6 : Int) ≠ 0 by omega)
    have e4 := Int.emod_lt_of_pos slot (show (0 : Int) < 6 by omega)
    go_wp2_with fail
    refine (within_any to_ 6 _ (by omega) (by omega)).mono ?_
    rintro e w2 ⟨rfl, rfl⟩
    generalize to_ % 6 = ti at *
    obtain ⟨ta, rfl⟩ := Int.eq_ofNat_of_zero_le e1
    go_wp2_with fail
    refine (within_any slot 6 _ (by omega) (by omega)).mono ?_
    rintro e w2 ⟨rfl, rfl⟩
    generalize slot % 6 = si at *
    obtain ⟨sa, rfl⟩ := Int.eq_ofNat_of_zero_le e3
    go_wp2_with fail
    refine (text_any x _ HX.out).mono ?_
    rintro e w2 ⟨rfl, hb2⟩
    obtain ⟨X, hX, hXs⟩ : ∃ X, secOf x = X ∧ X.size = 36 := ⟨_, rfl, secOf_size x⟩
    rw [hX]
    go_wp2_with fail
    refine (text_any y _ HY.out).mono ?_
    rintro e w3 ⟨rfl, hb3⟩
    obtain ⟨Y, hY, hYs⟩ : ∃ Y, secOf y = Y ∧ Y.size = 36 := ⟨_, rfl, secOf_size y⟩
    rw [hY]
    go_wp2_with fail
    refine (text_any z _ HZ.out).mono ?_
    rintro e w4 ⟨rfl, hb4⟩
    obtain ⟨Z, hZ, hZs⟩ : ∃ Z, secOf z = Z ∧ Z.size = 36 := ⟨_, rfl, secOf_size z⟩
    rw [hZ]
    obtain ⟨S1, S2, S3, S4, S5, p1, p2, p3, p4, p5, p6, p7, p8, k1, k2, k3, k4, k5⟩ := lies_plain X Y Z ta sa (by omega) (by omega) hXs hYs hZs
    have K0 := hid (And.intro (newDv_ok 6 6 (by decide) (by decide) (by decide)) (show (newDv 6 6).pend.length ≤ 1000000 from Nat.zero_le _))
    have P1 := hid p1
    have P2 := hid p2
    have P3 := hid p3
    have P4 := hid p4
    have P5 := hid p5
    have P6 := hid p6
    have P7 := hid p7
    have P8 := hid p8
    have OK := hid (And.intro k1 (And.intro k2 (And.intro k3 (And.intro k4 k5))))
    have hw := ((hb1.trans (hb2.mono hb1.size)).trans (hb3.mono (Nat.le_trans hb1.size hb2.size))).trans (hb4.mono (Nat.le_trans (Nat.le_trans hb1.size hb2.size) hb3.size))
    have HD4 := hid (((HD.out.below hb2).below hb3).below hb4)
    clear hb1 hb2 hb3 hb4 p1 p2 p3 p4 p5 p6 p7 p8 k1 k2 k3 k4 k5 hX hY hZ HD HX HY HZ hXs hYs hZs
    generalize newDv 6 6 = S0 at *
    go_wp2_with fail
    refine (blank_b _).mono ?_
    rintro e w5 ⟨rfl, hb5⟩
    go_wp2_with fail
    refine (blank_b _).mono ?_
    rintro e w6 ⟨rfl, hb6⟩
    go_wp2_with fail
    refine (blank_b _).mono ?_
    rintro e w7 ⟨rfl, hb7⟩
    go_wp2_with fail
    refine (blank_b _).mono ?_
    rintro e w8 ⟨rfl, hb8⟩
    go_wp2_with fail
    refine (blank_b _).mono ?_
    rintro e w9 ⟨rfl, hb9⟩
    go_wp2_with fail
    refine (blank_b _).mono ?_
    rintro e wA ⟨rfl, hbA⟩
    go_upto_region 8 with fail
    have hq := vals_new wA [.string blank, .string blank, .string blank, .string blank, .string blank, .string blank] 9
    have hbB : Below wA.heap.size wA (wA.alloc (.cells #[.string blank, .string blank, .string blank, .string blank, .string blank, .string blank] 9)) := (Below.refl _ _).alloc (Nat.le_refl _) _
    have hd5 := ((((((HD4.out.below hb5).below hb6).below hb7).below hb8).below hb9).below hbA)
    have hgo0 : ¬ o wA.heap.size := fun e => by have := hd5.under _ e; omega
    have hdB := hd5.below hbB
    have hsz5 := hw.size
    have hsz6 := hb5.size
    have hsz7 := hb6.size
    have hsz8 := hb7.size
    have hsz9 := hb8.size
    have hszA := hb9.size
    have hszB := hbA.size
    have hwB : Below w.heap.size w (wA.alloc (.cells #[.string blank, .string blank, .string blank, .string blank, .string blank, .string blank] 9)) := (((((((hw.trans (hb5.mono (by omega))).trans (hb6.mono (by omega))).trans (hb7.mono (by omega))).trans (hb8.mono (by omega))).trans (hb9.mono (by omega))).trans (hbA.mono (by omega)))).trans (hbB.mono (by omega))
    have hqw : w.heap.size ≤ wA.heap.size := by omega
    clear hsz5 hsz6 hsz7 hsz8 hsz9 hszA hszB hd5 hb5 hb6 hb7 hb8 hb9 hbA hbB hw HD4
    generalize wA.alloc (.cells #[.string blank, .string blank, .string blank, .string blank, .string blank, .string blank] 9) = wB at hq hdB hwB ⊢
    generalize wA.heap.size = q at hq hgo0 hqw ⊢
    have HDB := hid hdB
    have hvB : ValsAt wB q (strs (List.replicate 6 blank)) := hq
    have hg := hgo0
    clear hdB hq hgo0
    go_wp2_with fail
    refine (inject_e (S := S0) HDB.out K0.out.1 ⟨5, 0, 0, 0, 0⟩ K0.out.2).mono ?_
    rintro e wC ⟨rfl, hdC, hfC⟩
    rw [P1.out] at hdC
    rw [P1.out]
    have hwC := below_of_fr hwB hfC HA.out hwB.size
    have hvC := hvB.fr hfC hg
    have hgC := not_grow (w' := wC) hg hvB.lt
    have HAC := hid (hfC.mv.above HA.out hwB.size)
    generalize Grow o wB wC = oC at hdC HAC hgC
    have HDC := hid hdC
    clear hdC hfC HDB hwB hvB HA hg
    go_wp2_with fail
    refine (inject_e (S := S1) HDC.out OK.out.1.1 ⟨6, 0, 0, 0, ta⟩ (by rw [OK.out.1.2]; decide)).mono ?_
    rintro e wD ⟨rfl, hdD, hfD⟩
    rw [P2.out] at hdD
    rw [P2.out]
    have hwD := below_of_fr hwC hfD HAC.out hwC.size
    have hvD := hvC.fr hfD hgC
    have hgD := not_grow (w' := wD) hgC hvC.lt
    have HAD := hid (hfD.mv.above HAC.out hwC.size)
    generalize Grow oC wC wD = oD at hdD HAD hgD
    have HDD := hid hdD
    clear hdD hfD HDC hwC hvC HAC hgC
    have hgo := hgD
    go_wp2_with fail
    refine (write_e (S := S2) HDD.out OK.out.2.1 0 sa X).mono ?_
    rintro e wE ⟨rfl, hdE, hfE⟩
    rw [P3.out] at hdE
    rw [P3.out]
    have hwE := below_of_fr hwD hfE HAD.out hwD.size
    have hvE := hvD.fr hfE hgD
    have HDE := hid hdE
    clear hdE hfE HDD hwD hvD
    go_wp2_with fail
    refine (platters_e (S := S3) HDE.out OK.out.2.2.1).mono ?_
    rintro e wF ⟨vF, rfl, htF, hbF⟩
    rw [P4.out] at htF
    have hvF := hvE.below hbF hvE.lt
    have hwF := hwE.trans (hbF.mono hwE.size)
    have HDF := hid (HDE.out.below hbF)
    have HTF := hid htF
    have HVF := hid (hvF.own (o := fun k => k = q) rfl (by simp [strs]; unfold maxLen; decide))
    clear hbF HDE hwE hvE htF
    go_wp2_with fail
    refine (same_texts HTF.out (show Texts wF (fun k => k = q) (.slice (some ⟨q, 0, none⟩) 6 6) (List.replicate 6 blank) by unfold Texts; simpa [strs] using HVF.out) true (by simp)).mono ?_
    rintro e wG ⟨rfl, nG, rfl⟩
    have hvG := hvF.below (below_drew wF nG) hvF.lt
    have hwG := hwF.trans ((below_drew wF nG).mono hwF.size)
    have HDG := hid (HDF.out.below (below_drew wF nG))
    clear HDF hwF hvF HTF HVF
    generalize wF.drewN nG = wG at *
    go_upto_region 12 with fail
    have hlG : (strs (List.replicate 6 blank)).length = 6 := by simp [strs]
    have hsG := hvG.store ta (.string Y) (by rw [hlG]; omega)
    have hcG := hvG.cell ta (by rw [hlG]; omega)
    have hfG := hvG.free ta (by rw [hlG]; omega)
    have hsG' : ValsAt (wG.setCell ⟨q, ta, none⟩ (.string Y)) q (strs ((List.replicate 6 blank).set ta Y)) := by
      have e : strs ((List.replicate 6 blank).set ta Y) = (strs (List.replicate 6 blank)).set ta (.string Y) := by simp [strs, List.map_set]
      rw [e]; exact hsG
    have HSG := hid hsG'
    generalize (strs (List.replicate 6 blank))[ta]'(by rw [hlG]; omega) = oldG at hcG
    have HDH := hid (HDG.out.fr (o2 := fun k => k = q) ((Fr.refl _ _).setCell ⟨q, ta, none⟩ (.string Y) (.inl rfl)) (fun k e1 e2 => hgo (e2 ▸ e1)))
    have hwH := hwG.setCell (p := ⟨q, ta, none⟩) hqw (.string Y)
    clear hsG hsG' hlG HDG hwG
    go_upto_region 13 with fail
    generalize wG.setCell ⟨q, ta, none⟩ (.string Y) = wH at *
    have hvH := HSG.out
    clear HSG hcG hfG hvG
    go_wp2_with fail
    refine (write_e (S := S3) HDH.out OK.out.2.2.1 0 sa Y).mono ?_
    rintro e wI ⟨rfl, hdI, hfI⟩
    rw [P5.out] at hdI
    rw [P5.out]
    have hwI := below_of_fr hwH hfI HAD.out hwH.size
    have hvI := hvH.fr hfI hgD
    have HDI := hid hdI
    clear hdI hfI HDH hwH hvH
    go_wp2_with fail
    refine (platters_e (S := S4) HDI.out OK.out.2.2.2.1).mono ?_
    rintro e wJ ⟨vJ, rfl, htJ, hbJ⟩
    rw [P6.out] at htJ
    have hvJ := hvI.below hbJ hvI.lt
    have hwJ := hwI.trans (hbJ.mono hwI.size)
    have HDJ := hid (HDI.out.below hbJ)
    have HTJ := hid htJ
    have HVJ := hid (hvJ.own (o := fun k => k = q) rfl (by simp [strs]; unfold maxLen; decide))
    clear hbJ HDI hwI hvI htJ
    go_wp2_with fail
    refine (same_texts HTJ.out (show Texts wJ (fun k => k = q) (.slice (some ⟨q, 0, none⟩) 6 6) ((List.replicate 6 blank).set ta Y) by unfold Texts; simpa [strs] using HVJ.out) true (by simp)).mono ?_
    rintro e wK ⟨rfl, nK, rfl⟩
    have hvK := hvJ.below (below_drew wJ nK) hvJ.lt
    have hwK := hwJ.trans ((below_drew wJ nK).mono hwJ.size)
    have HDK := hid (HDJ.out.below (below_drew wJ nK))
    clear HDJ hwJ hvJ HTJ HVJ
    generalize wJ.drewN nK = wK at *
    go_upto_region 15 with fail
    have hlK : (strs ((List.replicate 6 blank).set ta Y)).length = 6 := by simp [strs]
    have hsK := hvK.store sa (.string Z) (by rw [hlK]; omega)
    have hcK := hvK.cell sa (by rw [hlK]; omega)
    have hfK := hvK.free sa (by rw [hlK]; omega)
    have hsK' : ValsAt (wK.setCell ⟨q, sa, none⟩ (.string Z)) q (strs (((List.replicate 6 blank).set ta Y).set sa Z)) := by
      have e : strs (((List.replicate 6 blank).set ta Y).set sa Z) = (strs ((List.replicate 6 blank).set ta Y)).set sa (.string Z) := by simp [strs, List.map_set]
      rw [e]; exact hsK
    have HSK := hid hsK'
    generalize (strs ((List.replicate 6 blank).set ta Y))[sa]'(by rw [hlK]; omega) = oldK at hcK
    have HDL := hid (HDK.out.fr (o2 := fun k => k = q) ((Fr.refl _ _).setCell ⟨q, sa, none⟩ (.string Z) (.inl rfl)) (fun k e1 e2 => hgo (e2 ▸ e1)))
    have hwL := hwK.setCell (p := ⟨q, sa, none⟩) hqw (.string Z)
    clear hsK hsK' hlK HDK hwK
    go_upto_region 16 with fail
    generalize wK.setCell ⟨q, sa, none⟩ (.string Z) = wL at *
    have hvL := HSK.out
    clear HSK hcK hfK hvK
    go_wp2_with fail
    refine (awake26 _).mono ?_
    rintro e wM ⟨rfl, hbM⟩
    have hvM := hvL.below hbM hvL.lt
    have hwM := hwL.trans (hbM.mono hwL.size)
    have HDM := hid (HDL.out.below hbM)
    clear hbM HDL hwL hvL
    go_wp2_with fail
    refine (write_e (S := S4) HDM.out OK.out.2.2.2.1 0 sa Z).mono ?_
    rintro e wN ⟨rfl, hdN, hfN⟩
    rw [P7.out] at hdN
    rw [P7.out]
    have hwN := below_of_fr hwM hfN HAD.out hwM.size
    have hvN := hvM.fr hfN hgD
    have HDN := hid hdN
    clear hdN hfN HDM hwM hvM
    go_wp2_with fail
    refine (platters_e (S := S5) HDN.out OK.out.2.2.2.2).mono ?_
    rintro e wO ⟨vO, rfl, htO, hbO⟩
    rw [P8.out] at htO
    have hvO := hvN.below hbO hvN.lt
    have hwO := hwN.trans (hbO.mono hwN.size)
    have HDO := hid (HDN.out.below hbO)
    have HTO := hid htO
    have HVO := hid (hvO.own (o := fun k => k = q) rfl (by simp [strs]; unfold maxLen; decide))
    clear hbO HDN hwN hvN htO
    go_wp2_with fail
    refine (same_texts HTO.out (show Texts wO (fun k => k = q) (.slice (some ⟨q, 0, none⟩) 6 6) (((List.replicate 6 blank).set ta Y).set sa Z) by unfold Texts; simpa [strs] using HVO.out) true (by simp)).mono ?_
    rintro e wP ⟨rfl, nP, rfl⟩
    have hvP := hvO.below (below_drew wO nP) hvO.lt
    have hwP := hwO.trans ((below_drew wO nP).mono hwO.size)
    have HDP := hid (HDO.out.below (below_drew wO nP))
    clear HDO hwO hvO HTO HVO
    generalize wO.drewN nP = wP at *
    go_wp2
    go_ret
    exact ⟨rfl, hwP⟩
end Go.Proofs.Ytiodfnjblimmbaa
