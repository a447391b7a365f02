/- ratesOK. -/
import Derived.Test.YtpoaadjhaknhdaaMC
namespace Go.Proofs.Ytpoaadjhaknhdaa
open Go Go.RowKit Go.Sort Go.Deep

set_option maxRecDepth 100000 in
set_option maxHeartbeats 3200000 in
theorem ratesok_any {w : World} {v u1 v1 u2 v2 : Value} {n a1 b1 a2 b2 : Nat} {m : Int} (h : FrsAt w v n) (x1 : One w u1 a1) (y1 : One w v1 b1) (p1 : 0 < b1) (x2 : One w u2 a2) (y2 : One w v2 b2) (p2 : 0 < b2) :
    Calls Try.prog 55 #[.int .i64 m, v, frAgg false u1 v1, frAgg false u2 v2] w (BoolPost w) := by
  obtain ⟨A, c, rfl, hn, hc, _⟩ := id h
  obtain ⟨U1, m1, c1, rfl⟩ := x1.sl
  obtain ⟨V1, m2, c2, rfl⟩ := y1.sl
  obtain ⟨U2, m3, c3, rfl⟩ := x2.sl
  obtain ⟨V2, m4, c4, rfl⟩ := y2.sl
  have hb1 := (Below.refl w.heap.size w).alloc (Nat.le_refl _) (.cells #[.bool false, .slice U1 m1 c1, .slice V1 m2 c2] 48)
  have hb2 := hb1.alloc hb1.size (.cells #[.bool false, .slice U2 m3 c3, .slice V2 m4 c4] 48)
  have hg1 := heap_alloc_new w (.cells #[.bool false, .slice U1 m1 c1, .slice V1 m2 c2] 48)
  have hg2 := heap_alloc_new (w.alloc (.cells #[.bool false, .slice U1 m1 c1, .slice V1 m2 c2] 48)) (.cells #[.bool false, .slice U2 m3 c3, .slice V2 m4 c4] 48)
  have hg1' := (Below.heap_alloc (w.alloc (.cells #[.bool false, .slice U1 m1 c1, .slice V1 m2 c2] 48)) (.cells #[.bool false, .slice U2 m3 c3, .slice V2 m4 c4] 48) w.heap.size (by simp)).trans hg1
  rw [show (w.alloc (.cells #[.bool false, .slice U1 m1 c1, .slice V1 m2 c2] 48)).heap.size = w.heap.size + 1 by simp] at hg2
  have HR := hid (h.below hb2)
  have X1 := hid (x1.below hb2)
  have Y1 := hid (y1.below hb2)
  have X2 := hid (x2.below hb2)
  have Y2 := hid (y2.below hb2)
  have HB := hid hb2
  clear x1 y1 x2 y2 hb1 hb2 hg1 h
  unfold maxLen at hc
  rcases (show 1 ≤ m ∨ m < 1 by omega) with hm | hm
  · by_cases he : (n : Int) = m
    · go_enter Try.func55, Try.ntmps55
      go_wp2_with fail
      generalize (w.alloc (.cells #[.bool false, .slice U1 m1 c1, .slice V1 m2 c2] 48)).alloc (.cells #[.bool false, .slice U2 m3 c3, .slice V2 m4 c4] 48) = w1 at *
      have HG1 := hid hg1'
      have HG2 := hid hg2
      clear hg1' hg2
      refine (rates_any HR.out).mono ?_
      rintro e w2 ⟨bb, rfl, hb2⟩
      have HW2 := hid (HB.out.trans (hb2.mono HB.out.size))
      cases bb
      · go_wp2
        go_ret
        exact ⟨_, rfl, HW2.out⟩
      have hgg := (hb2.block _ (Array.getElem?_eq_some_iff.1 HG1.out).1).trans HG1.out
      have HGG2 := hid ((hb2.block _ (Array.getElem?_eq_some_iff.1 HG2.out).1).trans HG2.out)
      have z0 := cell_block hgg 0
      have z1 := cell_block hgg 1
      have z2 := cell_block hgg 2
      simp only [List.getElem?_toArray, List.getElem?_cons_zero, List.getElem?_cons_succ] at z0 z1 z2
      have X12 := hid (X1.out.below hb2)
      have Y12 := hid (Y1.out.below hb2)
      have X22 := hid (X2.out.below hb2)
      have Y22 := hid (Y2.out.below hb2)
      have HGG1 := hid hgg
      clear hb2 hgg HG1 HG2 X1 Y1 X2 Y2
      go_wp2_with fail
      refine (inlimits_fr X12.out Y12.out p1).mono ?_
      rintro e w3 ⟨rfl, hb3⟩
      have hgg := (hb3.block _ (Array.getElem?_eq_some_iff.1 HGG1.out).1).trans HGG1.out
      have HGG3 := hid ((hb3.block _ (Array.getElem?_eq_some_iff.1 HGG2.out).1).trans HGG2.out)
      have z30 := cell_block hgg 0
      have z31 := cell_block hgg 1
      have z32 := cell_block hgg 2
      simp only [List.getElem?_toArray, List.getElem?_cons_zero, List.getElem?_cons_succ] at z30 z31 z32
      have X13 := hid (X12.out.below hb3)
      have Y13 := hid (Y12.out.below hb3)
      have X23 := hid (X22.out.below hb3)
      have Y23 := hid (Y22.out.below hb3)
      have HW3 := hid (HW2.out.trans (hb3.mono HW2.out.size))
      clear hb3 hgg z0 z1 z2 X12 Y12 X22 Y22 HGG1 HGG2
      go_wp2_with fail
      refine (atmost_fr X13.out Y13.out p1).mono ?_
      rintro e w4 ⟨bb, rfl, hb4⟩
      have HW4 := hid (HW3.out.trans (hb4.mono HW3.out.size))
      cases bb
      · go_wp2
        go_ret
        exact ⟨_, rfl, HW4.out⟩
      have hgg := (hb4.block _ (Array.getElem?_eq_some_iff.1 HGG3.out).1).trans HGG3.out
      have z40 := cell_block hgg 0
      have z41 := cell_block hgg 1
      have z42 := cell_block hgg 2
      simp only [List.getElem?_toArray, List.getElem?_cons_zero, List.getElem?_cons_succ] at z40 z41 z42
      have X24 := hid (X23.out.below hb4)
      have Y24 := hid (Y23.out.below hb4)
      clear hb4 hgg z30 z31 z32 X23 Y23 HGG3
      go_wp2_with fail
      refine (inlimits_fr X24.out Y24.out p2).mono ?_
      rintro e w5 ⟨rfl, hb5⟩
      go_wp2
      go_ret
      exact ⟨_, rfl, HW4.out.trans (hb5.mono HW4.out.size)⟩
    · have he2 : ((n : Int) == m) = false := by rw [beq_eq_false_iff_ne]; exact he
      go_enter Try.func55, Try.ntmps55
      go_wp2
      go_ret
      exact ⟨_, rfl, HB.out⟩
  · by_cases he : (n : Int) = 1
    · go_enter Try.func55, Try.ntmps55
      go_wp2_with fail
      generalize (w.alloc (.cells #[.bool false, .slice U1 m1 c1, .slice V1 m2 c2] 48)).alloc (.cells #[.bool false, .slice U2 m3 c3, .slice V2 m4 c4] 48) = w1 at *
      have HG1 := hid hg1'
      have HG2 := hid hg2
      clear hg1' hg2
      refine (rates_any HR.out).mono ?_
      rintro e w2 ⟨bb, rfl, hb2⟩
      have HW2 := hid (HB.out.trans (hb2.mono HB.out.size))
      cases bb
      · go_wp2
        go_ret
        exact ⟨_, rfl, HW2.out⟩
      have hgg := (hb2.block _ (Array.getElem?_eq_some_iff.1 HG1.out).1).trans HG1.out
      have HGG2 := hid ((hb2.block _ (Array.getElem?_eq_some_iff.1 HG2.out).1).trans HG2.out)
      have z0 := cell_block hgg 0
      have z1 := cell_block hgg 1
      have z2 := cell_block hgg 2
      simp only [List.getElem?_toArray, List.getElem?_cons_zero, List.getElem?_cons_succ] at z0 z1 z2
      have X12 := hid (X1.out.below hb2)
      have Y12 := hid (Y1.out.below hb2)
      have X22 := hid (X2.out.below hb2)
      have Y22 := hid (Y2.out.below hb2)
      have HGG1 := hid hgg
      clear hb2 hgg HG1 HG2 X1 Y1 X2 Y2
      go_wp2_with fail
      refine (inlimits_fr X12.out Y12.out p1).mono ?_
      rintro e w3 ⟨rfl, hb3⟩
      have hgg := (hb3.block _ (Array.getElem?_eq_some_iff.1 HGG1.out).1).trans HGG1.out
      have HGG3 := hid ((hb3.block _ (Array.getElem?_eq_some_iff.1 HGG2.out).1).trans HGG2.out)
      have z30 := cell_block hgg 0
      have z31 := cell_block hgg 1
      have z32 := cell_block hgg 2
      simp only [List.getElem?_toArray, List.getElem?_cons_zero, List.getElem?_cons_succ] at z30 z31 z32
      have X13 := hid (X12.out.below hb3)
      have Y13 := hid (Y12.out.below hb3)
      have X23 := hid (X22.out.below hb3)
      have Y23 := hid (Y22.out.below hb3)
      have HW3 := hid (HW2.out.trans (hb3.mono HW2.out.size))
      clear hb3 hgg z0 z1 z2 X12 Y12 X22 Y22 HGG1 HGG2
      go_wp2_with fail
      refine (atmost_fr X13.out Y13.out p1).mono ?_
      rintro e w4 ⟨bb, rfl, hb4⟩
      have HW4 := hid (HW3.out.trans (hb4.mono HW3.out.size))
      cases bb
      · go_wp2
        go_ret
        exact ⟨_, rfl, HW4.out⟩
      have hgg := (hb4.block _ (Array.getElem?_eq_some_iff.1 HGG3.out).1).trans HGG3.out
      have z40 := cell_block hgg 0
      have z41 := cell_block hgg 1
      have z42 := cell_block hgg 2
      simp only [List.getElem?_toArray, List.getElem?_cons_zero, List.getElem?_cons_succ] at z40 z41 z42
      have X24 := hid (X23.out.below hb4)
      have Y24 := hid (Y23.out.below hb4)
      clear hb4 hgg z30 z31 z32 X23 Y23 HGG3
      go_wp2_with fail
      refine (inlimits_fr X24.out Y24.out p2).mono ?_
      rintro e w5 ⟨rfl, hb5⟩
      go_wp2
      go_ret
      exact ⟨_, rfl, HW4.out.trans (hb5.mono HW4.out.size)⟩
    · have he2 : ((n : Int) == 1) = false := by rw [beq_eq_false_iff_ne]; exact he
      go_enter Try.func55, Try.ntmps55
      go_wp2
      go_ret
      exact ⟨_, rfl, HB.out⟩
end Go.Proofs.Ytpoaadjhaknhdaa
