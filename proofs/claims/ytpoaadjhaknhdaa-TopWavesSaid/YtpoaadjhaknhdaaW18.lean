/- ValidLaw. -/
import Derived.Test.YtpoaadjhaknhdaaW17
namespace Go.Proofs.Ytpoaadjhaknhdaa
open Go Go.RowKit Go.Sort Go.Deep

abbrev lawObj (nm : ByteArray) (sg so sc rg ro rc eg eo ec : Nat) : Obj := .cells #[.string nm, .slice (some ⟨sg, so, none⟩) 1 sc, .slice (some ⟨rg, ro, none⟩) 1 rc, .slice (some ⟨eg, eo, none⟩) 1 ec] 64
set_option maxRecDepth 100000 in
set_option maxHeartbeats 3200000 in
theorem validlaw_any {w : World} {nm : ByteArray} {vs vr ve : Value} (h : LawAt w vs vr ve) : Calls Try.prog 40 #[.agg #[.string nm, vs, vr, ve]] w (BoolPost w) := by
  have HL := hid h
  obtain ⟨⟨sg, so, sc, rfl, hs1, hsm, hsf⟩, ⟨eg, eo, ec, rfl, he1, hem, hef⟩, ⟨rg, ro, rc, rfl, hr1, hrm, hrg, g3, o3, c3, hrow, hc3, hcm, hrf⟩⟩ := h
  have HSF := hid hsf
  have HEF := hid hef
  have HRF := hid hrf
  have HS := hid (show FrsAt w (.slice (some ⟨sg, so, none⟩) 1 sc) 1 from ⟨_, sc, rfl, hs1, hsm, fun _ => ⟨sg, so, rfl, fun j hj => (by have hj0 : j = 0 := (by omega); subst hj0; exact hsf)⟩⟩)
  have HE := hid (show FrsAt w (.slice (some ⟨eg, eo, none⟩) 1 ec) 1 from ⟨_, ec, rfl, he1, hem, fun _ => ⟨eg, eo, rfl, fun j hj => (by have hj0 : j = 0 := (by omega); subst hj0; exact hef)⟩⟩)
  have HR := hid (show FrsAt w (.slice (some ⟨g3, o3, none⟩) 1 c3) 1 from ⟨_, c3, rfl, hc3, hcm, fun _ => ⟨g3, o3, rfl, fun j hj => (by have hj0 : j = 0 := (by omega); subst hj0; exact hrf)⟩⟩)
  obtain ⟨hrg3, ru, rv, ra, rb, ry0, ry1, ry2, rxu, rxv, rb0⟩ := hrf
  obtain ⟨RU, rm1, rc1, rfl⟩ := rxu.sl
  obtain ⟨RV, rm2, rc2, rfl⟩ := rxv.sl
  have HRX := hid rxu
  unfold maxLen at hsm hem hrm hcm
  have hb1 := (Below.refl w.heap.size w).alloc (Nat.le_refl _) (lawObj nm sg so sc rg ro rc eg eo ec)
  have hg1 := heap_alloc_new w (lawObj nm sg so sc rg ro rc eg eo ec)
  have HW1 := hid hb1
  have HC := hid (fun (W : World) (hW : Below (w.alloc (lawObj nm sg so sc rg ro rc eg eo ec)).heap.size (w.alloc (lawObj nm sg so sc rg ro rc eg eo ec)) W) =>
    (show (W.cell? ⟨w.heap.size, 0, none⟩ = some (.string nm) ∧ W.cell? ⟨w.heap.size, 1, none⟩ = some (.slice (some ⟨sg, so, none⟩) 1 sc) ∧ W.cell? ⟨w.heap.size, 2, none⟩ = some (.slice (some ⟨rg, ro, none⟩) 1 rc) ∧ W.cell? ⟨w.heap.size, 3, none⟩ = some (.slice (some ⟨eg, eo, none⟩) 1 ec)) ∧ W.cell? ⟨rg, ro, none⟩ = some (.slice (some ⟨g3, o3, none⟩) 1 c3) ∧ (W.cell? ⟨g3, o3, none⟩ = some (.bool false) ∧ W.cell? ⟨g3, o3 + 1, none⟩ = some (.slice RU rm1 rc1) ∧ W.cell? ⟨g3, o3 + 2, none⟩ = some (.slice RV rm2 rc2)) ∧ Below w.heap.size w W from by
      have hbW := hb1.trans (hW.mono hb1.size)
      have hgg := (hW.block _ (Array.getElem?_eq_some_iff.1 hg1).1).trans hg1
      exact ⟨⟨cell_block hgg 0, cell_block hgg 1, cell_block hgg 2, cell_block hgg 3⟩, (hbW.cell (p := ⟨rg, ro, none⟩) hrg).trans hrow, ⟨(hbW.cell (p := ⟨g3, o3, none⟩) hrg3).trans ry0, (hbW.cell (p := ⟨g3, o3 + 1, none⟩) hrg3).trans ry1, (hbW.cell (p := ⟨g3, o3 + 2, none⟩) hrg3).trans ry2⟩, hbW⟩))
  clear ry0 ry1 ry2 rxu rxv hrow hg1 hb1 hsf hef
  go_enter Try.func40, Try.ntmps40
  go_wp2_with fail
  generalize w.alloc (lawObj nm sg so sc rg ro rc eg eo ec) = w1 at *
  refine (in_any 1 1 4 w1).mono ?_
  rintro e w2 ⟨rfl, rfl⟩
  rw [show decide ((1 : Int) ≤ 1 ∧ (1 : Int) ≤ 4) = true by decide]
  obtain ⟨⟨p0, p1, p2, p3⟩, _, _, hbw⟩ := HC.out w1 (Below.refl _ _)
  have HBW := hid hbw
  clear hbw
  go_wp2_with fail
  refine (lims_any (HS.out.below HBW.out)).mono ?_
  rintro e w2 ⟨b, rfl, hb2⟩
  obtain ⟨⟨q0, q1, q2, q3⟩, _, _, hbw⟩ := HC.out w2 hb2
  have HX2 := hid hb2
  have HBW2 := hid hbw
  clear hb2 hbw p0 p1 p2 p3
  cases b
  · go_wp2
    go_ret
    exact ⟨_, rfl, HBW2.out⟩
  go_wp2_with fail
  refine (lims_any (HE.out.below HBW2.out)).mono ?_
  rintro e w3 ⟨b, rfl, hb3⟩
  have HX3 := hid (HX2.out.trans (hb3.mono HX2.out.size))
  obtain ⟨⟨r0, r1, r2, r3⟩, r4, _, hbw⟩ := HC.out w3 HX3.out
  have HBW3 := hid hbw
  clear hb3 hbw q0 q1 q2 q3
  cases b
  · go_wp2
    go_ret
    exact ⟨_, rfl, HBW3.out⟩
  go_wp2_with fail
  refine wp_loop_rounds 2 ?_
  rw [rounds_succ]
  go_wp2_with fail
  refine (lims_any (HR.out.below HBW3.out)).mono ?_
  rintro e w4 ⟨b, rfl, hb4⟩
  have HX4 := hid (HX3.out.trans (hb4.mono HX3.out.size))
  obtain ⟨⟨s0, s1, s2, s3⟩, s4, ⟨s5, s6, s7⟩, hbw⟩ := HC.out w4 HX4.out
  have HBW4 := hid hbw
  clear hb4 hbw r0 r1 r2 r3 r4
  cases b
  · go_wp2
    go_ret
    exact ⟨_, rfl, HBW4.out⟩
  go_wp2_with fail
  refine (above_fr (HRX.out.below HBW4.out)).mono ?_
  rintro e w5 ⟨rfl, hb5⟩
  generalize decide (0 < bitsN ra) = c at *
  have HX5 := hid (HX4.out.trans (hb5.mono HX4.out.size))
  obtain ⟨⟨t0, t1, t2, t3⟩, _, _, hbw⟩ := HC.out w5 HX5.out
  have HBW5 := hid hbw
  clear hb5 hbw s0 s1 s2 s3 s4 s5 s6 s7
  cases c
  case true =>
    go_wp2
    go_ret
    exact ⟨_, rfl, HBW5.out⟩
  go_wp2
  rw [rounds_succ]
  go_wp2_with fail
  refine (sum_fr1 (HSF.out.below HBW5.out) hs1).mono ?_
  rintro e w6 ⟨u6, v6, a6, b6, rfl, hu6, hv6, hb60, hb6⟩
  obtain ⟨Au, ku, cu, rfl⟩ := hu6.sl
  obtain ⟨Av, kv, cv, rfl⟩ := hv6.sl
  have hba := (Below.refl w6.heap.size w6).alloc (Nat.le_refl _) (.cells #[.bool false, .slice Au ku cu, .slice Av kv cv] 48)
  have hga := heap_alloc_new w6 (.cells #[.bool false, .slice Au ku cu, .slice Av kv cv] 48)
  have HU7 := hid (hu6.below hba)
  have HV7 := hid (hv6.below hba)
  have HX7 := hid (HX5.out.trans ((hb6.trans (hba.mono hb6.size)).mono HX5.out.size))
  clear hu6 hv6 hb6 t0 t1 t2 t3
  go_upto_region 12 with fail
  have HGA := hid hga
  clear hba hga
  generalize w6.alloc (.cells #[.bool false, .slice Au ku cu, .slice Av kv cv] 48) = w7 at *
  generalize w6.heap.size = q7 at *
  go_wp2_with fail
  refine (make_fr 1 1 (by omega) (by omega) (by omega) w7).mono ?_
  rintro e w8 ⟨u8, v8, a8, b8', rfl, hu8, hv8, ha8, hb80, hb81, hb8⟩
  obtain ⟨Bu, lu, du, rfl⟩ := hu8.sl
  obtain ⟨Bv, lv, dv, rfl⟩ := hv8.sl
  obtain rfl : b8' = 1 := by omega
  have hbb := (Below.refl w8.heap.size w8).alloc (Nat.le_refl _) (.cells #[.bool false, .slice Bu lu du, .slice Bv lv dv] 48)
  have hgb := heap_alloc_new w8 (.cells #[.bool false, .slice Bu lu du, .slice Bv lv dv] 48)
  have hb9 := hb8.trans (hbb.mono hb8.size)
  have HU9 := hid (HU7.out.below hb9)
  have HV9 := hid (HV7.out.below hb9)
  have HY9 := hid (hu8.below hbb)
  have HZ9 := hid (hv8.below hbb)
  have HX9 := hid (HX7.out.trans (hb9.mono HX7.out.size))
  have hg7 := (hb9.block _ (Array.getElem?_eq_some_iff.1 HGA.out).1).trans HGA.out
  have m0 := cell_block hg7 0
  have m1 := cell_block hg7 1
  have m2 := cell_block hg7 2
  have n0 := cell_block hgb 0
  have n1 := cell_block hgb 1
  have n2 := cell_block hgb 2
  simp only [List.getElem?_toArray, List.getElem?_cons_zero, List.getElem?_cons_succ] at m0 m1 m2 n0 n1 n2
  clear hu8 hv8 hb8 hbb hgb hb9 hg7
  go_upto_region 13 with fail
  generalize w8.alloc (.cells #[.bool false, .slice Bu lu du, .slice Bv lv dv] 48) = w9 at *
  go_wp2_with fail
  refine (cmp_fr HU9.out HV9.out hb60 HY9.out HZ9.out (by omega) (by rw [Nat.mul_one]; exact HU9.out.1) (by
    have := HV9.out.1
    rcases (by omega : a8 = 0 ∨ a8 = 1) with rfl | rfl
    · rw [Nat.zero_mul]; omega
    · rw [Nat.one_mul]; exact this)).mono ?_
  rintro e w10 ⟨rfl, hb10⟩
  generalize cmpN (a6 * 1) (a8 * b6) = kk at *
  have HX10 := hid (HX9.out.trans (hb10.mono HX9.out.size))
  obtain ⟨⟨t0, t1, t2, t3⟩, _, _, hbw⟩ := HC.out w10 HX10.out
  have HBW10 := hid hbw
  clear hb10 hbw m0 m1 m2 n0 n1 n2
  by_cases hk : kk = 0
  · subst hk
    go_wp2_with fail
    refine (ends_any (HL.out.below HBW10.out)).mono ?_
    rintro e w11 ⟨b, rfl, hb11⟩
    have HF := hid (HBW10.out.trans (hb11.mono HBW10.out.size))
    clear hb11 t0 t1 t2 t3
    go_wp2
    go_ret
    exact ⟨_, rfl, HF.out⟩
  · have hk2 : (kk == 0) = false := by rw [beq_eq_false_iff_ne]; exact hk
    go_wp2
    go_ret
    exact ⟨_, rfl, HBW10.out⟩
end Go.Proofs.Ytpoaadjhaknhdaa
