/- Fractions of numbers of one limb, not negative: Cmp, Add. -/
import Derived.Test.YtpoaadjhaknhdaaW9
namespace Go.Proofs.Ytpoaadjhaknhdaa
open Go Go.RowKit Go.Sort Go.Deep

section
variable {w : World} {u1 v1 u2 v2 : Value} {a1 b1 a2 b2 : Nat}
set_option maxRecDepth 100000 in
set_option maxHeartbeats 1600000 in
theorem cmp_fr (x1 : One w u1 a1) (y1 : One w v1 b1) (p1 : 0 < b1) (x2 : One w u2 a2) (y2 : One w v2 b2) (p2 : 0 < b2) (s1 : a1 * b2 < 4294967296) (s2 : a2 * b1 < 4294967296) :
    Calls Try.prog 52 #[frAgg false u1 v1, frAgg false u2 v2] w fun e w' => e = .returned (.tuple #[.int .i64 (cmpN (a1 * b2) (a2 * b1)), .int .i64 0]) ∧ Below w.heap.size w w' := by
  obtain ⟨U1, m1, c1, rfl⟩ := x1.sl
  obtain ⟨V1, m2, c2, rfl⟩ := y1.sl
  obtain ⟨U2, m3, c3, rfl⟩ := x2.sl
  obtain ⟨V2, m4, c4, rfl⟩ := y2.sl
  have hb1 := (Below.refl w.heap.size w).alloc (Nat.le_refl _) (.cells #[.bool false, .slice U1 m1 c1, .slice V1 m2 c2] 48)
  have hb2 := hb1.alloc hb1.size (.cells #[.bool false, .slice U2 m3 c3, .slice V2 m4 c4] 48)
  have hg1 := heap_alloc_new w (.cells #[.bool false, .slice U1 m1 c1, .slice V1 m2 c2] 48)
  have hg2 := heap_alloc_new (w.alloc (.cells #[.bool false, .slice U1 m1 c1, .slice V1 m2 c2] 48)) (.cells #[.bool false, .slice U2 m3 c3, .slice V2 m4 c4] 48)
  have hg1' := (Below.heap_alloc (w.alloc (.cells #[.bool false, .slice U1 m1 c1, .slice V1 m2 c2] 48)) (.cells #[.bool false, .slice U2 m3 c3, .slice V2 m4 c4] 48) w.heap.size (by simp)).trans hg1
  rw [show (w.alloc (.cells #[.bool false, .slice U1 m1 c1, .slice V1 m2 c2] 48)).heap.size = w.heap.size + 1 by simp] at hg2
  have X1 := hid (x1.below hb2)
  have Y1 := hid (y1.below hb2)
  have X2 := hid (x2.below hb2)
  have Y2 := hid (y2.below hb2)
  have HB := hid hb2
  obtain ⟨k, hk⟩ : ∃ k, cmpN (a1 * b2) (a2 * b1) = k := ⟨_, rfl⟩
  rw [hk]
  have HK := hid hk
  clear x1 y1 x2 y2 hb1 hb2 hg1 hk
  go_enter Try.func52, Try.ntmps52
  go_wp2_with fail
  generalize (w.alloc (.cells #[.bool false, .slice U1 m1 c1, .slice V1 m2 c2] 48)).alloc (.cells #[.bool false, .slice U2 m3 c3, .slice V2 m4 c4] 48) = w1 at *
  have HGS := hid (fun (W : World) (h : Below w1.heap.size w1 W) => And.intro ((h.block _ (Array.getElem?_eq_some_iff.1 hg1').1).trans hg1') ((h.block _ (Array.getElem?_eq_some_iff.1 hg2).1).trans hg2))
  clear hg1' hg2
  refine (valid_fr X1.out Y1.out p1).mono ?_
  rintro e w2 ⟨rfl, hb2⟩
  have c20 : w2.cell? ⟨w.heap.size + 1, 0, none⟩ = _ := cell_block (HGS.out _ hb2).2 0
  have c21 : w2.cell? ⟨w.heap.size + 1, 1, none⟩ = _ := cell_block (HGS.out _ hb2).2 1
  have c22 : w2.cell? ⟨w.heap.size + 1, 2, none⟩ = _ := cell_block (HGS.out _ hb2).2 2
  simp only [List.getElem?_toArray, List.getElem?_cons_zero, List.getElem?_cons_succ] at c20 c21 c22
  have HW2 := hid hb2
  clear hb2
  go_wp2_with fail
  refine (valid_fr (X2.out.below HW2.out) (Y2.out.below HW2.out) p2).mono ?_
  rintro e w3 ⟨rfl, hb3⟩
  have HW3 := hid (HW2.out.trans (hb3.mono HW2.out.size))
  clear hb3 c20 c21 c22 HW2
  go_upto_region 3 with fail
  have HW := hid (HW3.out.drew)
  have HCS := hid (fun (W : World) (h : Below w1.heap.size w1 W) => (show W.cell? ⟨w.heap.size, 1, none⟩ = some (.slice U1 m1 c1) ∧ W.cell? ⟨w.heap.size, 2, none⟩ = some (.slice V1 m2 c2) ∧ W.cell? ⟨w.heap.size + 1, 1, none⟩ = some (.slice U2 m3 c3) ∧ W.cell? ⟨w.heap.size + 1, 2, none⟩ = some (.slice V2 m4 c4) from
    ⟨cell_block (HGS.out _ h).1 1, cell_block (HGS.out _ h).1 2, cell_block (HGS.out _ h).2 1, cell_block (HGS.out _ h).2 2⟩))
  go_region_held3 (fun W => W.cell? ⟨w.heap.size, 1, none⟩ = some (.slice U1 m1 c1) ∧ W.cell? ⟨w.heap.size, 2, none⟩ = some (.slice V1 m2 c2) ∧ W.cell? ⟨w.heap.size + 1, 1, none⟩ = some (.slice U2 m3 c3) ∧ W.cell? ⟨w.heap.size + 1, 2, none⟩ = some (.slice V2 m4 c4))
    (exact HCS.out _ HW.out)
    ((first
      | (go_at_call 72; (first
          | (with_reducible refine (times_one (X1.out.below HW.out) (Y2.out.below HW.out) s1).mono ?_; rintro e wx ⟨pv, rfl, hp, hb⟩; have HP := hid hp; try (replace HQ := hid (HQ.out.below hb)))
          | (with_reducible refine (times_one (X2.out.below HW.out) (Y1.out.below HW.out) s2).mono ?_; rintro e wx ⟨qv, rfl, hq, hb⟩; have HQ := hid hq; try (replace HP := hid (HP.out.below hb)))); replace HW := hid (HW.out.trans (hb.mono HW.out.size)); clear hb)
      | (go_at_call 71; refine (cmp_one HP.out HQ.out).mono ?_; rintro e wx ⟨rfl, hb⟩; rw [HK.out]; replace HW := hid (HW.out.trans (hb.mono HW.out.size)); clear hb)))
  all_goals
    have n1 : wx.drew.cell? ⟨w.heap.size, 0, none⟩ = _ := cell_block (HGS.out _ HW.out.drew).1 0
    have n2 : wx.drew.cell? ⟨w.heap.size + 1, 0, none⟩ = _ := cell_block (HGS.out _ HW.out.drew).2 0
    simp only [List.getElem?_toArray, List.getElem?_cons_zero, List.getElem?_cons_succ] at n1 n2
    go_upto_region 4 with fail
    go_region
    all_goals
      go_wp2
      go_ret2
      exact ⟨rfl, HB.out.trans (HW.out.drew.mono HB.out.size)⟩
set_option maxRecDepth 100000 in
set_option maxHeartbeats 3200000 in
theorem add_fr (x1 : One w u1 a1) (y1 : One w v1 b1) (p1 : 0 < b1) (x2 : One w u2 a2) (y2 : One w v2 b2) (p2 : 0 < b2) (s1 : a1 * b2 < 4294967296) (s2 : a2 * b1 < 4294967296) (s3 : b1 * b2 < 4294967296) (s4 : a1 * b2 + a2 * b1 < 4294967296) :
    Calls Try.prog 67 #[frAgg false u1 v1, frAgg false u2 v2] w fun e w' => ∃ u' v' a' b', e = .returned (.tuple #[frAgg false u' v', .int .i64 0]) ∧ One w' u' a' ∧ One w' v' b' ∧ a' ≤ a1 * b2 + a2 * b1 ∧ 0 < b' ∧ b' ≤ b1 * b2 ∧ Below w.heap.size w w' := by
  obtain ⟨U1, m1, c1, rfl⟩ := x1.sl
  obtain ⟨V1, m2, c2, rfl⟩ := y1.sl
  obtain ⟨U2, m3, c3, rfl⟩ := x2.sl
  obtain ⟨V2, m4, c4, rfl⟩ := y2.sl
  have hb1 := (Below.refl w.heap.size w).alloc (Nat.le_refl _) (.cells #[.bool false, .slice U1 m1 c1, .slice V1 m2 c2] 48)
  have hb2 := hb1.alloc hb1.size (.cells #[.bool false, .slice U2 m3 c3, .slice V2 m4 c4] 48)
  have hb3 := hb2.alloc hb2.size (.cells #[.bool false, .slice none 0 0, .slice none 0 0] 48)
  have hg1 := heap_alloc_new w (.cells #[.bool false, .slice U1 m1 c1, .slice V1 m2 c2] 48)
  have hg2 := heap_alloc_new (w.alloc (.cells #[.bool false, .slice U1 m1 c1, .slice V1 m2 c2] 48)) (.cells #[.bool false, .slice U2 m3 c3, .slice V2 m4 c4] 48)
  have hg3 := heap_alloc_new ((w.alloc (.cells #[.bool false, .slice U1 m1 c1, .slice V1 m2 c2] 48)).alloc (.cells #[.bool false, .slice U2 m3 c3, .slice V2 m4 c4] 48)) (.cells #[.bool false, .slice none 0 0, .slice none 0 0] 48)
  have hg1' := (Below.heap_alloc ((w.alloc (.cells #[.bool false, .slice U1 m1 c1, .slice V1 m2 c2] 48)).alloc (.cells #[.bool false, .slice U2 m3 c3, .slice V2 m4 c4] 48)) (.cells #[.bool false, .slice none 0 0, .slice none 0 0] 48) w.heap.size (by simp; omega)).trans ((Below.heap_alloc (w.alloc (.cells #[.bool false, .slice U1 m1 c1, .slice V1 m2 c2] 48)) (.cells #[.bool false, .slice U2 m3 c3, .slice V2 m4 c4] 48) w.heap.size (by simp)).trans hg1)
  have hg2' := (Below.heap_alloc ((w.alloc (.cells #[.bool false, .slice U1 m1 c1, .slice V1 m2 c2] 48)).alloc (.cells #[.bool false, .slice U2 m3 c3, .slice V2 m4 c4] 48)) (.cells #[.bool false, .slice none 0 0, .slice none 0 0] 48) _ (by simp)).trans hg2
  rw [show (w.alloc (.cells #[.bool false, .slice U1 m1 c1, .slice V1 m2 c2] 48)).heap.size = w.heap.size + 1 by simp] at hg2'
  rw [show ((w.alloc (.cells #[.bool false, .slice U1 m1 c1, .slice V1 m2 c2] 48)).alloc (.cells #[.bool false, .slice U2 m3 c3, .slice V2 m4 c4] 48)).heap.size = w.heap.size + 1 + 1 by simp] at hg3
  have X1 := hid (x1.below hb3)
  have Y1 := hid (y1.below hb3)
  have X2 := hid (x2.below hb3)
  have Y2 := hid (y2.below hb3)
  have HB := hid hb3
  have P3 := hid (Nat.mul_pos p1 p2)
  clear x1 y1 x2 y2 hb1 hb2 hb3 hg1 hg2
  go_enter Try.func67, Try.ntmps67
  go_wp2_with fail
  generalize (((w.alloc (.cells #[.bool false, .slice U1 m1 c1, .slice V1 m2 c2] 48)).alloc (.cells #[.bool false, .slice U2 m3 c3, .slice V2 m4 c4] 48)).alloc (.cells #[.bool false, .slice none 0 0, .slice none 0 0] 48)) = w1 at *
  have HGS := hid (fun (W : World) (h : Below w1.heap.size w1 W) => And.intro ((h.block _ (Array.getElem?_eq_some_iff.1 hg1').1).trans hg1') (And.intro ((h.block _ (Array.getElem?_eq_some_iff.1 hg2').1).trans hg2') ((h.block _ (Array.getElem?_eq_some_iff.1 hg3).1).trans hg3)))
  clear hg1' hg2' hg3
  refine (valid_fr X1.out Y1.out p1).mono ?_
  rintro e w2 ⟨rfl, hb2⟩
  have c20 : w2.cell? ⟨w.heap.size + 1, 0, none⟩ = _ := cell_block (HGS.out _ hb2).2.1 0
  have c21 : w2.cell? ⟨w.heap.size + 1, 1, none⟩ = _ := cell_block (HGS.out _ hb2).2.1 1
  have c22 : w2.cell? ⟨w.heap.size + 1, 2, none⟩ = _ := cell_block (HGS.out _ hb2).2.1 2
  simp only [List.getElem?_toArray, List.getElem?_cons_zero, List.getElem?_cons_succ] at c20 c21 c22
  have HW2 := hid hb2
  clear hb2
  go_wp2_with fail
  refine (valid_fr (X2.out.below HW2.out) (Y2.out.below HW2.out) p2).mono ?_
  rintro e w3 ⟨rfl, hb3⟩
  have HW3 := hid (HW2.out.trans (hb3.mono HW2.out.size))
  clear hb3 c20 c21 c22 HW2
  go_upto_region 3 with fail
  have HW := hid (HW3.out.drew)
  have HCS := hid (fun (W : World) (h : Below w1.heap.size w1 W) => (show W.cell? ⟨w.heap.size, 1, none⟩ = some (.slice U1 m1 c1) ∧ W.cell? ⟨w.heap.size, 2, none⟩ = some (.slice V1 m2 c2) ∧ W.cell? ⟨w.heap.size + 1, 1, none⟩ = some (.slice U2 m3 c3) ∧ W.cell? ⟨w.heap.size + 1, 2, none⟩ = some (.slice V2 m4 c4) from
    ⟨cell_block (HGS.out _ h).1 1, cell_block (HGS.out _ h).1 2, cell_block (HGS.out _ h).2.1 1, cell_block (HGS.out _ h).2.1 2⟩))
  go_region_held3 (fun W => W.cell? ⟨w.heap.size, 1, none⟩ = some (.slice U1 m1 c1) ∧ W.cell? ⟨w.heap.size, 2, none⟩ = some (.slice V1 m2 c2) ∧ W.cell? ⟨w.heap.size + 1, 1, none⟩ = some (.slice U2 m3 c3) ∧ W.cell? ⟨w.heap.size + 1, 2, none⟩ = some (.slice V2 m4 c4))
    (exact HCS.out _ HW.out)
    ((first
      | (go_at_call 72; (first
          | (with_reducible refine (times_one (X1.out.below HW.out) (Y2.out.below HW.out) s1).mono ?_; rintro e wx ⟨pv, rfl, hp, hb⟩; have HP := hid hp; try (replace HQ := hid (HQ.out.below hb)); try (replace HR := hid (HR.out.below hb)))
          | (with_reducible refine (times_one (X2.out.below HW.out) (Y1.out.below HW.out) s2).mono ?_; rintro e wx ⟨qv, rfl, hq, hb⟩; have HQ := hid hq; try (replace HP := hid (HP.out.below hb)); try (replace HR := hid (HR.out.below hb)))
          | (with_reducible refine (times_one (Y1.out.below HW.out) (Y2.out.below HW.out) s3).mono ?_; rintro e wx ⟨rv, rfl, hr, hb⟩; have HR := hid hr; try (replace HP := hid (HP.out.below hb)); try (replace HQ := hid (HQ.out.below hb)))); replace HW := hid (HW.out.trans (hb.mono HW.out.size)); clear hb)))
  all_goals
    have n1 : wx.cell? ⟨w.heap.size, 0, none⟩ = _ := cell_block (HGS.out _ HW.out).1 0
    have n2 : wx.cell? ⟨w.heap.size + 1, 0, none⟩ = _ := cell_block (HGS.out _ HW.out).2.1 0
    simp only [List.getElem?_toArray, List.getElem?_cons_zero, List.getElem?_cons_succ] at n1 n2
    go_wp2_with fail
    refine (add_one HP.out HQ.out s4).mono ?_
    rintro e w5 ⟨sv, rfl, hs5, hb5⟩
    have HS5 := hid hs5
    have HR5 := hid (HR.out.below hb5)
    have HW5 := hid (HW.out.trans (hb5.mono HW.out.size))
    have n5 : w5.cell? ⟨w.heap.size, 0, none⟩ = _ := cell_block (HGS.out _ HW5.out).1 0
    simp only [List.getElem?_toArray, List.getElem?_cons_zero] at n5
    clear hs5 hb5 n1 n2
    go_wp2_with fail
    refine (lowest_fr HS5.out HR5.out P3.out).mono ?_
    rintro e w6 ⟨u6, v6, a6, b6, rfl, hu6, hv6, ha6, hb60, hb6l, hb6⟩
    obtain ⟨Au, ku, cu, rfl⟩ := hu6.sl
    obtain ⟨Av, kv, cv, rfl⟩ := hv6.sl
    have HU6 := hid hu6
    have HV6 := hid hv6
    have HL6 := hid (And.intro ha6 (And.intro hb60 hb6l))
    have HW6 := hid (HW5.out.trans (hb6.mono HW5.out.size))
    clear hu6 hv6 ha6 hb60 hb6l hb6 n5
    have hg6 := (HGS.out _ HW6.out).2.2
    go_wp2_with (refine wpList_store_row rfl 48 (.tmp 4) (.tmp 55) rfl (w.heap.size + 1 + 1) #[.bool false, .slice Au ku cu, .slice Av kv cv] rfl rfl 48 _ hg6 fr_size rfl (by simp [HU6.out.one', HV6.out.one', Value.oneCell']) ?_)
    have hn1 : ∀ k i, Value.slice none 0 0 ≠ .int k i := fun k i e => by cases e
    have HU7 := hid (HU6.out.setRow hg6 hn1 hn1 #[.bool false, .slice Au ku cu, .slice Av kv cv])
    have HV7 := hid (HV6.out.setRow hg6 hn1 hn1 #[.bool false, .slice Au ku cu, .slice Av kv cv])
    have HB7 := hid (below_setRow (HB.out.trans (HW6.out.mono HB.out.size)) (show w.heap.size ≤ w.heap.size + 1 + 1 by omega) #[.bool false, .slice Au ku cu, .slice Av kv cv])
    have hg7 := setRow_heap w6 (w.heap.size + 1 + 1) _ #[.bool false, .slice Au ku cu, .slice Av kv cv] _ _ hg6
    clear hg6 hn1
    generalize w6.setRow (w.heap.size + 1 + 1) #[.bool false, .slice Au ku cu, .slice Av kv cv] = w7 at *
    go_wp2
    refine bodyPost_ret (results_cell_pair Try.results67 _ _ (w.heap.size + 1 + 1) _ _ _ _ rfl hg7 Try.underlying48 rfl fr_size) rfl ⟨_, _, _, _, rfl, HU7.out, HV7.out, HL6.out.1, HL6.out.2.1, HL6.out.2.2, HB7.out⟩
end
end Go.Proofs.Ytpoaadjhaknhdaa
