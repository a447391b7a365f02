/- ends. -/
import Derived.Test.YtpoaadjhaknhdaaW16
namespace Go.Proofs.Ytpoaadjhaknhdaa
open Go Go.RowKit Go.Sort Go.Deep

/-- A law of one phase. -/
structure LawAt (w : World) (vs vr ve : Value) : Prop where
  s : ∃ g off c, vs = .slice (some ⟨g, off, none⟩) 1 c ∧ 1 ≤ c ∧ c ≤ maxLen ∧ FrAt w g off
  e : ∃ g off c, ve = .slice (some ⟨g, off, none⟩) 1 c ∧ 1 ≤ c ∧ c ≤ maxLen ∧ FrAt w g off
  r : ∃ g off c, vr = .slice (some ⟨g, off, none⟩) 1 c ∧ 1 ≤ c ∧ c ≤ maxLen ∧ g < w.heap.size ∧ ∃ g3 o3 c3, w.cell? ⟨g, off, none⟩ = some (.slice (some ⟨g3, o3, none⟩) 1 c3) ∧ 1 ≤ c3 ∧ c3 ≤ maxLen ∧ FrAt w g3 o3
theorem LawAt.below {w w' : World} {vs vr ve : Value} (h : LawAt w vs vr ve) (hb : Below w.heap.size w w') : LawAt w' vs vr ve := by
  obtain ⟨⟨g, off, c, h1, h2, h3, h4⟩, ⟨g', off', c', h1', h2', h3', h4'⟩, ⟨g2, off2, c2, r1, r2, r3, r4, g3, o3, c3, r5, r6, r7, r8⟩⟩ := h
  exact ⟨⟨g, off, c, h1, h2, h3, h4.below hb⟩, ⟨g', off', c', h1', h2', h3', h4'.below hb⟩, ⟨g2, off2, c2, r1, r2, r3, Nat.lt_of_lt_of_le r4 hb.size, g3, o3, c3, (hb.cell (p := ⟨g2, off2, none⟩) r4).trans r5, r6, r7, r8.below hb⟩⟩
theorem ends_true (b : Bool) (w : World) : Calls Try.prog 75 #[.bool b] w fun e w' => e = .returned (.bool b) ∧ w = w' := by
  go_enter Try.func75, Try.ntmps75
  go_wp2
  go_ret
  exact ⟨rfl, rfl⟩
set_option maxRecDepth 100000 in
theorem all_bools {w : World} {g c : Nat} {d : Bool} (h : ValsAt w g [.bool d]) (hc : 1 ≤ c) (hm : c ≤ maxLen) : Calls Try.prog 74 #[.slice (some ⟨g, 0, none⟩) 1 c, .func (.func 75) #[] #[]] w (BoolPost w) := by
  have z0 := h.cell 0 (by simp)
  simp only [List.getElem_cons_zero] at z0
  unfold maxLen at hm
  clear h
  go_enter Try.func74, Try.ntmps74
  go_wp2_with fail
  refine wp_loop_rounds 2 ?_
  rw [rounds_succ]
  go_wp2_with fail
  refine (ends_true d w).mono ?_
  rintro e w2 ⟨rfl, rfl⟩
  cases d
  · go_wp2
    go_ret
    exact ⟨_, rfl, Below.refl _ _⟩
  · go_wp2
    rw [rounds_succ]
    go_wp2
    go_ret
    exact ⟨_, rfl, Below.refl _ _⟩
set_option maxRecDepth 100000 in
set_option maxHeartbeats 3200000 in
theorem ends_any {w : World} {nm : ByteArray} {vs vr ve : Value} (h : LawAt w vs vr ve) : Calls Try.prog 53 #[.agg #[.string nm, vs, vr, ve]] w (BoolPost w) := by
  obtain ⟨⟨sg, so, sc, rfl, _⟩, ⟨eg, eo, ec, rfl, he1, hem, hef⟩, ⟨rg, ro, rc, rfl, hr1, hrm, hrg, g3, o3, c3, hrow, hc3, hcm, hrf⟩⟩ := h
  obtain ⟨heg, eu, ev, ea, eb, ey0, ey1, ey2, exu, exv, eb0⟩ := hef
  obtain ⟨hrg3, ru, rv, ra, rb, ry0, ry1, ry2, rxu, rxv, rb0⟩ := hrf
  obtain ⟨EU, em1, ec1, rfl⟩ := exu.sl
  obtain ⟨EV, em2, ec2, rfl⟩ := exv.sl
  obtain ⟨RU, rm1, rc1, rfl⟩ := rxu.sl
  obtain ⟨RV, rm2, rc2, rfl⟩ := rxv.sl
  unfold maxLen at hem hrm hcm
  have hb1 := (Below.refl w.heap.size w).alloc (Nat.le_refl _) (.cells #[.string nm, .slice (some ⟨sg, so, none⟩) 1 sc, .slice (some ⟨rg, ro, none⟩) 1 rc, .slice (some ⟨eg, eo, none⟩) 1 ec] 64)
  have hg1 := heap_alloc_new w (.cells #[.string nm, .slice (some ⟨sg, so, none⟩) 1 sc, .slice (some ⟨rg, ro, none⟩) 1 rc, .slice (some ⟨eg, eo, none⟩) 1 ec] 64)
  have HW1 := hid hb1
  have HEX := hid (exu.below hb1)
  have HRX := hid (rxu.below hb1)
  have HC := hid (fun (W : World) (hW : Below (w.alloc (.cells #[.string nm, .slice (some ⟨sg, so, none⟩) 1 sc, .slice (some ⟨rg, ro, none⟩) 1 rc, .slice (some ⟨eg, eo, none⟩) 1 ec] 64)).heap.size (w.alloc (.cells #[.string nm, .slice (some ⟨sg, so, none⟩) 1 sc, .slice (some ⟨rg, ro, none⟩) 1 rc, .slice (some ⟨eg, eo, none⟩) 1 ec] 64)) W) =>
    (show (W.cell? ⟨w.heap.size, 2, none⟩ = some (.slice (some ⟨rg, ro, none⟩) 1 rc) ∧ W.cell? ⟨w.heap.size, 3, none⟩ = some (.slice (some ⟨eg, eo, none⟩) 1 ec)) ∧ (W.cell? ⟨eg, eo, none⟩ = some (.bool false) ∧ W.cell? ⟨eg, eo + 1, none⟩ = some (.slice EU em1 ec1) ∧ W.cell? ⟨eg, eo + 2, none⟩ = some (.slice EV em2 ec2)) ∧ W.cell? ⟨rg, ro, none⟩ = some (.slice (some ⟨g3, o3, none⟩) 1 c3) ∧ (W.cell? ⟨g3, o3, none⟩ = some (.bool false) ∧ W.cell? ⟨g3, o3 + 1, none⟩ = some (.slice RU rm1 rc1) ∧ W.cell? ⟨g3, o3 + 2, none⟩ = some (.slice RV rm2 rc2)) from by
      have hbW := hb1.trans (hW.mono hb1.size)
      have hgg := (hW.block _ (Array.getElem?_eq_some_iff.1 hg1).1).trans hg1
      exact ⟨⟨cell_block hgg 2, cell_block hgg 3⟩, ⟨(hbW.cell (p := ⟨eg, eo, none⟩) heg).trans ey0, (hbW.cell (p := ⟨eg, eo + 1, none⟩) heg).trans ey1, (hbW.cell (p := ⟨eg, eo + 2, none⟩) heg).trans ey2⟩, (hbW.cell (p := ⟨rg, ro, none⟩) hrg).trans hrow, ⟨(hbW.cell (p := ⟨g3, o3, none⟩) hrg3).trans ry0, (hbW.cell (p := ⟨g3, o3 + 1, none⟩) hrg3).trans ry1, (hbW.cell (p := ⟨g3, o3 + 2, none⟩) hrg3).trans ry2⟩⟩))
  clear ey0 ey1 ey2 exu exv ry0 ry1 ry2 rxu rxv hrow hg1 hb1
  have hz : w.heap.size < (w.alloc (.cells #[.string nm, .slice (some ⟨sg, so, none⟩) 1 sc, .slice (some ⟨rg, ro, none⟩) 1 rc, .slice (some ⟨eg, eo, none⟩) 1 ec] 64)).heap.size := by simp
  go_enter Try.func53, Try.ntmps53
  have k1 := bools_1
  go_upto_region 2 with fail
  have HV := hid (vals_new (w.alloc (.cells #[.string nm, .slice (some ⟨sg, so, none⟩) 1 sc, .slice (some ⟨rg, ro, none⟩) 1 rc, .slice (some ⟨eg, eo, none⟩) 1 ec] 64)) [.bool false] 4)
  have HX := hid ((Below.refl (w.alloc (.cells #[.string nm, .slice (some ⟨sg, so, none⟩) 1 sc, .slice (some ⟨rg, ro, none⟩) 1 rc, .slice (some ⟨eg, eo, none⟩) 1 ec] 64)).heap.size (w.alloc (.cells #[.string nm, .slice (some ⟨sg, so, none⟩) 1 sc, .slice (some ⟨rg, ro, none⟩) 1 rc, .slice (some ⟨eg, eo, none⟩) 1 ec] 64))).alloc (Nat.le_refl _) (.cells #[.bool false] 4))
  have hrs : (w.alloc (.cells #[.string nm, .slice (some ⟨sg, so, none⟩) 1 sc, .slice (some ⟨rg, ro, none⟩) 1 rc, .slice (some ⟨eg, eo, none⟩) 1 ec] 64)).heap.size = w.heap.size + 1 := by simp
  have HWL := hid (show w.heap.size ≤ w.heap.size + 1 by omega)
  rw [hrs] at HV HX HC
  have HWR := hid hrs
  clear hz hrs k1
  generalize w.alloc (.cells #[.string nm, .slice (some ⟨sg, so, none⟩) 1 sc, .slice (some ⟨rg, ro, none⟩) 1 rc, .slice (some ⟨eg, eo, none⟩) 1 ec] 64) = w1 at *
  generalize w1.alloc (.cells #[.bool false] 4) = w2 at *
  generalize w.heap.size + 1 = r at *
  have HSZ := hid (fun (W : World) (h : Below r w1 W) => (show r ≤ W.heap.size by have := h.size; rw [HWR.out] at this; exact this))
  have HE1 := hid (fun (W : World) (h : Below r w1 W) => HEX.out.below (w' := W) (by rw [HWR.out]; exact h))
  have HR1 := hid (fun (W : World) (h : Below r w1 W) => HRX.out.below (w' := W) (by rw [HWR.out]; exact h))
  clear HEX HRX
  go_wp2_with fail
  go_loopw [4] (fun i wr => ∃ t : Nat, t ≤ 2 ∧ i = .int .i64 t ∧ Hid (∃ d : Bool, ValsAt wr r [.bool d]) ∧ Hid (Below r w1 wr)) (fun i _ => (2 - intOf i).toNat)
  case atStart => exact ⟨0, by omega, rfl, hid ⟨false, HV.out⟩, HX⟩
  case round =>
    clear HV HX
    obtain ⟨t, ht, rfl, HV, HX⟩ := hrel
    by_cases hlt : t < 2
    · have hdt : decide ((t : Int) ≤ 1) = true := decide_eq_true (by omega)
      go_wp2_with fail
      go_loopw [20] (fun i wx => ∃ k : Nat, k ≤ 1 ∧ i = .int .i64 k ∧ Hid (∃ d : Bool, ValsAt wx r [.bool d]) ∧ Hid (Below r w1 wx)) (fun i _ => (1 - intOf i).toNat)
      case atStart => exact ⟨0, by omega, rfl, HV, HX⟩
      case round =>
        clear HV HX
        obtain ⟨k, hk, rfl, HV, HX⟩ := hrel
        by_cases hk1 : k < 1
        · obtain rfl : k = 0 := by omega
          rw [show ((0 : Nat) : Int) = 0 from rfl]
          go_upto_region 8 with fail
          go_cut [] (fun wx => Hid (∃ d : Bool, ValsAt wx r [.bool d]) ∧ Hid (Below r w1 wx))
          case first =>
            obtain ⟨d, hv⟩ := HV.out
            have e0 := hv.cell 0 (by simp)
            have f0 := hv.free 0 (by simp)
            simp only [List.getElem_cons_zero] at e0
            obtain ⟨⟨_, a3⟩, ⟨y0, y1, y2⟩, _⟩ := HC.out _ HX.out
            have HVV := hid hv
            clear hv
            cases d
            · go_wp2_with fail
              refine (above_fr (HE1.out _ HX.out)).mono ?_
              rintro e w5 ⟨rfl, hb5⟩
              generalize decide (0 < bitsN ea) = c at *
              have HV5 := hid (HVV.out.below hb5 HVV.out.lt)
              have HX5 := hid (HX.out.trans (hb5.mono (HSZ.out _ HX.out)))
              have e5 := HV5.out.cell 0 (by simp)
              have f5 := HV5.out.free 0 (by simp)
              simp only [List.getElem_cons_zero] at e5
              clear hb5 e0 f0 a3 y0 y1 y2
              go_wp2_with fail
              go_meet
              exact ⟨hid ⟨c, HV5.out.store 0 (.bool c) (by simp)⟩, hid (HX5.out.setCell (Nat.le_refl _) _)⟩
            · go_wp2_with fail
              go_meet
              exact ⟨hid ⟨true, HVV.out.store 0 (.bool true) (by simp)⟩, hid (HX.out.setCell (Nat.le_refl _) _)⟩
          case rest =>
            clear HV HX
            obtain ⟨HV, HX⟩ := hcut
            obtain ⟨⟨a2, _⟩, _, b0, _⟩ := HC.out _ HX.out
            go_wp2_with fail
            clear a2 b0
            go_loopw [44] (fun i wy => ∃ q : Nat, q ≤ 1 ∧ i = .int .i64 q ∧ Hid (∃ d : Bool, ValsAt wy r [.bool d]) ∧ Hid (Below r w1 wy)) (fun i _ => (1 - intOf i).toNat)
            case atStart => exact ⟨0, by omega, rfl, HV, HX⟩
            case round =>
              clear HV HX
              obtain ⟨q, hq, rfl, HV, HX⟩ := hrel
              by_cases hq1 : q < 1
              · obtain rfl : q = 0 := by omega
                obtain ⟨d, hv⟩ := HV.out
                have HVV := hid hv
                obtain ⟨_, _, _, y0, y1, y2⟩ := HC.out _ HX.out
                clear hv HV
                go_upto_region 12 with fail
                have hba := (Below.refl wr.heap.size wr).alloc (Nat.le_refl _) (.cells #[.bool false, .slice RU rm1 rc1, .slice RV rm2 rc2] 48)
                have hga := heap_alloc_new wr (.cells #[.bool false, .slice RU rm1 rc1, .slice RV rm2 rc2] 48)
                have HV4 := hid (HVV.out.below hba HVV.out.lt)
                have HX4 := hid (HX.out.trans (hba.mono (HSZ.out _ HX.out)))
                have c0 := cell_block hga 0
                have c1 := cell_block hga 1
                have c2 := cell_block hga 2
                simp only [List.getElem?_toArray, List.getElem?_cons_zero, List.getElem?_cons_succ] at c0 c1 c2
                have e0 := HV4.out.cell 0 (by simp)
                have f0 := HV4.out.free 0 (by simp)
                simp only [List.getElem_cons_zero] at e0
                clear hba hga y0 y1 y2
                generalize wr.alloc (.cells #[.bool false, .slice RU rm1 rc1, .slice RV rm2 rc2] 48) = w4 at *
                cases d
                · go_wp2_with fail
                  refine (above_fr (HR1.out _ HX4.out)).mono ?_
                  rintro e w5 ⟨rfl, hb5⟩
                  generalize decide (0 < bitsN ra) = c at *
                  have HV5 := hid (HV4.out.below hb5 HV4.out.lt)
                  have HX5 := hid (HX4.out.trans (hb5.mono (HSZ.out _ HX4.out)))
                  have e5 := HV5.out.cell 0 (by simp)
                  have f5 := HV5.out.free 0 (by simp)
                  simp only [List.getElem_cons_zero] at e5
                  clear hb5 e0 f0 c0 c1 c2
                  cases c
                  all_goals
                    go_wp2
                    refine ⟨?_, ?_⟩
                    · first
                        | exact ⟨1, by omega, by go_num, hid ⟨false, HV5.out.store 0 (.bool false) (by simp)⟩, hid (HX5.out.setCell (Nat.le_refl _) _)⟩
                        | (iterate 90 (try apply Exists.intro); refine ⟨?_, rfl⟩; exact ⟨1, by omega, by go_num, hid ⟨false, HV5.out.store 0 (.bool false) (by simp)⟩, hid (HX5.out.setCell (Nat.le_refl _) _)⟩)
                    · (simp [intOf]; try omega)
                · go_wp2
                  refine ⟨?_, ?_⟩
                  · first
                      | exact ⟨1, by omega, by go_num, hid ⟨true, HV4.out.store 0 (.bool true) (by simp)⟩, hid (HX4.out.setCell (Nat.le_refl _) _)⟩
                      | (iterate 90 (try apply Exists.intro); refine ⟨?_, rfl⟩; exact ⟨1, by omega, by go_num, hid ⟨true, HV4.out.store 0 (.bool true) (by simp)⟩, hid (HX4.out.setCell (Nat.le_refl _) _)⟩)
                  · (simp [intOf]; try omega)
              · obtain rfl : q = 1 := by omega
                rw [show ((1 : Nat) : Int) = 1 from rfl]
                go_wp2
                refine ⟨?_, ?_⟩
                · first
                    | exact ⟨1, by omega, by go_num, HV, HX⟩
                    | (iterate 90 (try apply Exists.intro); refine ⟨?_, rfl⟩; exact ⟨1, by omega, by go_num, HV, HX⟩)
                · (simp [intOf]; try omega)
        · obtain rfl : k = 1 := by omega
          rw [show ((1 : Nat) : Int) = 1 from rfl]
          go_wp2
          refine ⟨?_, ?_⟩
          · first
              | exact ⟨t + 1, by omega, by go_num, HV, HX⟩
              | (iterate 90 (try apply Exists.intro); refine ⟨?_, rfl⟩; exact ⟨t + 1, by omega, by go_num, HV, HX⟩)
          · (simp [intOf]; try omega)
    · obtain rfl : t = 2 := by omega
      obtain ⟨d, hv⟩ := HV.out
      have HVV := hid hv
      clear hv
      go_wp2_with fail
      refine (all_bools HVV.out (Nat.le_refl _) (by unfold maxLen; omega)).mono ?_
      rintro e w5 ⟨b, rfl, hb5⟩
      have HF := hid ((HW1.out.trans (HX.out.mono HWL.out)).trans (hb5.mono (HW1.out.trans (HX.out.mono HWL.out)).size))
      clear hb5
      go_wp2
      go_ret
      exact ⟨_, rfl, HF.out⟩
end Go.Proofs.Ytpoaadjhaknhdaa
