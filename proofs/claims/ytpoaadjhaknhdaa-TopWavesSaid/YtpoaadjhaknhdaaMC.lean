/- The fractions of a fleet: inLimits, above, atMostOne, Sum of one. -/
import Derived.Test.YtpoaadjhaknhdaaW11
namespace Go.Proofs.Ytpoaadjhaknhdaa
open Go Go.RowKit Go.Sort Go.Deep

section
variable {w : World} {u v : Value} {a b : Nat}
set_option maxRecDepth 100000 in
set_option maxHeartbeats 1600000 in
theorem inlimits_fr (ha : One w u a) (hb : One w v b) (b0 : 0 < b) : Calls Try.prog 47 #[frAgg false u v] w fun e w' => e = .returned (.bool true) ∧ Below w.heap.size w w' := by
  obtain ⟨U1, m1, c1, rfl⟩ := ha.sl
  obtain ⟨V1, m2, c2, rfl⟩ := hb.sl
  have hb1 := (Below.refl w.heap.size w).alloc (Nat.le_refl _) (.cells #[.bool false, .slice U1 m1 c1, .slice V1 m2 c2] 48)
  have HA := hid (ha.below hb1)
  have HB := hid (hb.below hb1)
  have HB1 := hid hb1
  clear ha hb hb1
  go_enter Try.func47, Try.ntmps47
  go_wp2_with fail
  generalize w.alloc (.cells #[.bool false, .slice U1 m1 c1, .slice V1 m2 c2] 48) = w1 at *
  refine (reduce_fr HA.out HB.out b0).mono ?_
  rintro e w2 ⟨u2, v2, a2, b2, rfl, hu2, hv2, _, hb20, _, hb2⟩
  obtain ⟨Au, ku, cu, rfl⟩ := hu2.sl
  obtain ⟨Av, kv, cv, rfl⟩ := hv2.sl
  have hb3 := (Below.refl w2.heap.size w2).alloc (Nat.le_refl _) (.cells #[.bool false, .slice Au ku cu, .slice Av kv cv] 48)
  have hg3 := heap_alloc_new w2 (.cells #[.bool false, .slice Au ku cu, .slice Av kv cv] 48)
  have z0 : (w2.alloc (.cells #[.bool false, .slice Au ku cu, .slice Av kv cv] 48)).cell? ⟨w2.heap.size, 0, none⟩ = some (.bool false) := cell_block hg3 0
  have z1 : (w2.alloc (.cells #[.bool false, .slice Au ku cu, .slice Av kv cv] 48)).cell? ⟨w2.heap.size, 1, none⟩ = some (.slice Au ku cu) := cell_block hg3 1
  have z2 : (w2.alloc (.cells #[.bool false, .slice Au ku cu, .slice Av kv cv] 48)).cell? ⟨w2.heap.size, 2, none⟩ = some (.slice Av kv cv) := cell_block hg3 2
  have HU := hid (hu2.below hb3)
  have HV := hid (hv2.below hb3)
  have hw := HB1.out.trans (hb2.mono HB1.out.size)
  have HW := hid (hw.trans (hb3.mono hw.size))
  have l1 := bitsN_le a2
  have l2 := bitsN_le b2
  clear hu2 hv2 hb2 hb3 hg3 hw
  go_wp2_with fail
  refine (bits_one HU.out).mono ?_
  rintro e w4 ⟨rfl, rfl⟩
  go_wp2_with fail
  refine (bits_one HV.out).mono ?_
  rintro e w4 ⟨rfl, rfl⟩
  go_wp2
  go_ret
  exact ⟨by simp; omega, HW.out⟩
set_option maxRecDepth 100000 in
theorem above_fr (ha : One w u a) : Calls Try.prog 48 #[frAgg false u v] w fun e w' => e = .returned (.bool (decide (0 < bitsN a))) ∧ Below w.heap.size w w' := by
  have HA := hid ha
  obtain ⟨c, hc⟩ : ∃ c, decide (0 < bitsN a) = c := ⟨_, rfl⟩
  rw [hc]
  have HC := hid hc
  have HG := heap_alloc_new w (.cells #[.bool false, u, v] 48)
  have z1 : (w.alloc (.cells #[.bool false, u, v] 48)).cell? ⟨w.heap.size, 1, none⟩ = some u := cell_block HG 1
  clear hc
  go_enter Try.func48, Try.ntmps48
  go_wp2_with fail
  refine (bits_one (HA.out.below ((Below.refl _ _).alloc (Nat.le_refl _) _))).mono ?_
  rintro e w2 ⟨rfl, rfl⟩
  go_wp2
  go_ret
  exact ⟨by rw [← HC.out]; simp, (Below.refl _ _).alloc (Nat.le_refl _) _⟩
def BoolPost (w : World) (e : Ending) (w' : World) : Prop := ∃ b : Bool, e = .returned (.bool b) ∧ Below w.heap.size w w'
set_option maxRecDepth 100000 in
set_option maxHeartbeats 1600000 in
theorem atmost_fr (ha : One w u a) (hb : One w v b) (b0 : 0 < b) : Calls Try.prog 79 #[frAgg false u v] w (BoolPost w) := by
  obtain ⟨U1, m1, c1, rfl⟩ := ha.sl
  obtain ⟨V1, m2, c2, rfl⟩ := hb.sl
  have hb1 := (Below.refl w.heap.size w).alloc (Nat.le_refl _) (.cells #[.bool false, .slice U1 m1 c1, .slice V1 m2 c2] 48)
  have HG := hid (heap_alloc_new w (.cells #[.bool false, .slice U1 m1 c1, .slice V1 m2 c2] 48))
  have HA := hid (ha.below hb1)
  have HB := hid (hb.below hb1)
  have HB1 := hid hb1
  clear ha hb hb1
  go_enter Try.func79, Try.ntmps79
  go_wp2_with fail
  generalize w.alloc (.cells #[.bool false, .slice U1 m1 c1, .slice V1 m2 c2] 48) = w1 at *
  refine (make_fr 1 1 (by omega) (by omega) (by omega) w1).mono ?_
  rintro e w2 ⟨u2, v2, a2, b2, rfl, hu2, hv2, ha2, hb20, hb21, hb2⟩
  obtain ⟨Au, ku, cu, rfl⟩ := hu2.sl
  obtain ⟨Av, kv, cv, rfl⟩ := hv2.sl
  obtain rfl : b2 = 1 := by omega
  have hb3 := (Below.refl w2.heap.size w2).alloc (Nat.le_refl _) (.cells #[.bool false, .slice Au ku cu, .slice Av kv cv] 48)
  have hgg := ((hb2.trans (hb3.mono hb2.size)).block _ (Array.getElem?_eq_some_iff.1 HG.out).1).trans HG.out
  have z0 : (w2.alloc (.cells #[.bool false, .slice Au ku cu, .slice Av kv cv] 48)).cell? ⟨w.heap.size, 0, none⟩ = some (.bool false) := cell_block hgg 0
  have z1 : (w2.alloc (.cells #[.bool false, .slice Au ku cu, .slice Av kv cv] 48)).cell? ⟨w.heap.size, 1, none⟩ = some (.slice U1 m1 c1) := cell_block hgg 1
  have z2 : (w2.alloc (.cells #[.bool false, .slice Au ku cu, .slice Av kv cv] 48)).cell? ⟨w.heap.size, 2, none⟩ = some (.slice V1 m2 c2) := cell_block hgg 2
  have hw2 := hb2.trans (hb3.mono hb2.size)
  have HA3 := hid (HA.out.below hw2)
  have HB3 := hid (HB.out.below hw2)
  have HU := hid (hu2.below hb3)
  have HV := hid (hv2.below hb3)
  have HW := hid (HB1.out.trans (hw2.mono HB1.out.size))

  clear hu2 hv2 hb2 hb3 hgg hw2
  go_wp2_with fail
  refine (cmp_fr HA3.out HB3.out b0 HU.out HV.out (by omega) (by rw [Nat.mul_one]; exact HA3.out.1) (by
    have := HB3.out.1
    rcases (by omega : a2 = 0 ∨ a2 = 1) with rfl | rfl
    · rw [Nat.zero_mul]; omega
    · rw [Nat.one_mul]; exact this)).mono ?_
  rintro e w5 ⟨rfl, hb5⟩
  generalize cmpN (a * 1) (a2 * b) = k at *
  have HW5 := hid (HW.out.trans (hb5.mono HW.out.size))
  clear hb5 z0 z1 z2
  go_wp2
  go_ret
  exact ⟨_, rfl, HW5.out⟩
set_option maxRecDepth 100000 in
set_option maxHeartbeats 3200000 in
theorem sum_fr1 {g off c : Nat} (h : FrAt w g off) (hc : 1 ≤ c) : Calls Try.prog 50 #[.slice (some ⟨g, off, none⟩) 1 c] w fun e w' => ∃ u' v' a' b', e = .returned (.tuple #[frAgg false u' v', .int .i64 0]) ∧ One w' u' a' ∧ One w' v' b' ∧ 0 < b' ∧ Below w.heap.size w w' := by
  obtain ⟨hg, u, v, a, b, y0, y1, y2, ha, hb, b0⟩ := h
  obtain ⟨U1, m1, c1, rfl⟩ := ha.sl
  obtain ⟨V1, m2, c2, rfl⟩ := hb.sl
  have HA := hid ha
  have HB := hid hb
  have HBL := hid ((Below.refl w.heap.size w).alloc (Nat.le_refl _) (.cells #[.bool false, .slice none 0 0, .slice none 0 0] 48))
  have HG := hid (heap_alloc_new w (.cells #[.bool false, .slice none 0 0, .slice none 0 0] 48))
  clear ha hb
  go_enter Try.func50, Try.ntmps50
  go_wp2_with fail
  generalize w.alloc (.cells #[.bool false, .slice none 0 0, .slice none 0 0] 48) = w1 at *
  refine (make_one 1 (by omega) w1).mono ?_
  rintro e w2 ⟨v2, rfl, hv2, hb2⟩
  obtain ⟨Av, kv, cv, rfl⟩ := hv2.sl
  go_wp2_with fail
  have hs1 := hb2.size
  have hbA := hb2.alloc hs1 (.cells #[.bool false, .slice none 0 0, .slice Av kv cv] 48)
  have HG3 := hid (heap_alloc_new w2 (.cells #[.bool false, .slice none 0 0, .slice Av kv cv] 48))
  have HV3 := hid (hv2.below ((Below.refl w2.heap.size w2).alloc (Nat.le_refl _) (.cells #[.bool false, .slice none 0 0, .slice Av kv cv] 48)))
  have hw3 := HBL.out.trans (hbA.mono HBL.out.size)
  have hgr : (w2.alloc (.cells #[.bool false, .slice none 0 0, .slice Av kv cv] 48)).heap[w.heap.size]? = some (.cells #[.bool false, .slice none 0 0, .slice none 0 0] 48 (0, 0)) := (hbA.block _ (Array.getElem?_eq_some_iff.1 HG.out).1).trans HG.out
  have hne : w.heap.size ≠ w2.heap.size := by have := (Array.getElem?_eq_some_iff.1 HG.out).1; omega
  generalize w2.alloc (.cells #[.bool false, .slice none 0 0, .slice Av kv cv] 48) = w3 at *
  have hql : w.heap.size ≤ w2.heap.size := by have := HBL.out.size; omega
  generalize w2.heap.size = q at *
  have HGR := hid hgr
  have HW3 := hid hw3
  have HNE := hid hne
  have HQL := hid hql
  have z0 := (hw3.cell (p := ⟨g, off, none⟩) hg).trans y0
  have z1 := (hw3.cell (p := ⟨g, off + 1, none⟩) hg).trans y1
  have z2 := (hw3.cell (p := ⟨g, off + 2, none⟩) hg).trans y2
  have HA3 := hid (HA.out.below hw3)
  have HB3 := hid (HB.out.below hw3)
  clear hs1 hbA hv2 hb2 hw3 hgr y0 y1 y2 hne hql
  refine wp_loop_rounds 2 ?_
  rw [rounds_succ]
  go_upto_region 5 with fail
  have hb4 := (Below.refl w3.heap.size w3).alloc (Nat.le_refl _) (.cells #[.bool false, .slice U1 m1 c1, .slice V1 m2 c2] 48)
  have hg4 := heap_alloc_new w3 (.cells #[.bool false, .slice U1 m1 c1, .slice V1 m2 c2] 48)
  have hgq := (hb4.block _ (Array.getElem?_eq_some_iff.1 HG3.out).1).trans HG3.out
  have HGQ := hid hgq
  have HGR4 := hid ((hb4.block _ (Array.getElem?_eq_some_iff.1 HGR.out).1).trans HGR.out)
  have d0 := cell_block hg4 0
  have d1 := cell_block hg4 1
  have d2 := cell_block hg4 2
  have f0 := cell_block hgq 0
  have f1 := cell_block hgq 1
  have f2 := cell_block hgq 2
  simp only [List.getElem?_toArray, List.getElem?_cons_zero, List.getElem?_cons_succ] at d0 d1 d2 f0 f1 f2
  have HW4 := hid (HW3.out.trans (hb4.mono HW3.out.size))
  have HV4 := hid (HV3.out.below hb4)
  have HA4 := hid (HA3.out.below hb4)
  have HB4 := hid (HB3.out.below hb4)
  clear hb4 hg4 hgq z0 z1 z2 HGR HG3
  generalize w3.alloc (.cells #[.bool false, .slice U1 m1 c1, .slice V1 m2 c2] 48) = w4 at *
  go_wp2_with fail
  refine (add_fr (One.nil w4) HV4.out (by omega) HA4.out HB4.out b0 (by rw [Nat.zero_mul]; omega) (by rw [Nat.mul_one]; exact HA4.out.1) (by rw [Nat.one_mul]; exact HB4.out.1) (by rw [Nat.zero_mul, Nat.mul_one, Nat.zero_add]; exact HA4.out.1)).mono ?_
  rintro e w5 ⟨u5, v5, a5, b5, rfl, hu5, hv5, _, hb50, _, hb5⟩
  obtain ⟨Au, ku, cu, rfl⟩ := hu5.sl
  obtain ⟨Av5, kv5, cv5, rfl⟩ := hv5.sl
  have hb6 := (Below.refl w5.heap.size w5).alloc (Nat.le_refl _) (.cells #[.bool false, .slice Au ku cu, .slice Av5 kv5 cv5] 48)
  have hb56 := hb5.trans (hb6.mono hb5.size)
  have HGQ6 := hid ((hb56.block _ (Array.getElem?_eq_some_iff.1 HGQ.out).1).trans HGQ.out)
  have HGR6 := hid ((hb56.block _ (Array.getElem?_eq_some_iff.1 HGR4.out).1).trans HGR4.out)
  have HU6 := hid (hu5.below hb6)
  have HV6 := hid (hv5.below hb6)
  have HW6 := hid (HW4.out.trans (hb56.mono HW4.out.size))
  have hg6 := heap_alloc_new w5 (.cells #[.bool false, .slice Au ku cu, .slice Av5 kv5 cv5] 48)
  have e0 := cell_block hg6 0
  have e1 := cell_block hg6 1
  have e2 := cell_block hg6 2
  simp only [List.getElem?_toArray, List.getElem?_cons_zero, List.getElem?_cons_succ] at e0 e1 e2
  clear hb6 hb56 hu5 hv5 hb5 hg6 d0 d1 d2 f0 f1 f2
  go_upto_region 8 with fail
  generalize w5.alloc (.cells #[.bool false, .slice Au ku cu, .slice Av5 kv5 cv5] 48) = w6 at *
  have hq6 := HGQ6.out
  go_wp2_with (refine wpList_store_row rfl 48 (.tmp 4) (.tmp 27) rfl q #[.bool false, .slice Au ku cu, .slice Av5 kv5 cv5] rfl rfl 48 _ hq6 fr_size rfl (by simp [Value.oneCell']) ?_)
  have hni : ∀ (A : Option Addr) (k c : Nat), ∀ kk i, Value.slice A k c ≠ .int kk i := fun _ _ _ kk i e => by cases e
  have HU7 := hid (HU6.out.setRow hq6 (hni _ _ _) (hni _ _ _) #[.bool false, .slice Au ku cu, .slice Av5 kv5 cv5])
  have HV7 := hid (HV6.out.setRow hq6 (hni _ _ _) (hni _ _ _) #[.bool false, .slice Au ku cu, .slice Av5 kv5 cv5])
  have hq7 := setRow_heap w6 q _ #[.bool false, .slice Au ku cu, .slice Av5 kv5 cv5] _ _ hq6
  have HGR7 := hid ((setRow_other w6 q w.heap.size #[.bool false, .slice Au ku cu, .slice Av5 kv5 cv5] HNE.out).trans HGR6.out)
  have HW7 := hid (show Below w.heap.size w (w6.setRow q #[.bool false, .slice Au ku cu, .slice Av5 kv5 cv5]) from below_setRow HW6.out (HQL.out) _)
  have r0 := cell_block hq7 0
  have r1 := cell_block hq7 1
  have r2 := cell_block hq7 2
  simp only [List.getElem?_toArray, List.getElem?_cons_zero, List.getElem?_cons_succ] at r0 r1 r2
  clear hq6 hq7 e0 e1 e2 HGQ6 HGR6 HU6 HV6 HW6
  generalize w6.setRow q #[.bool false, .slice Au ku cu, .slice Av5 kv5 cv5] = w7 at *
  rw [rounds_succ]
  have hg7 := HGR7.out
  go_wp2_with (refine wpList_store_row rfl 48 (.tmp 2) (.tmp 29) rfl w.heap.size #[.bool false, .slice Au ku cu, .slice Av5 kv5 cv5] rfl rfl 48 _ hg7 fr_size rfl (by simp [Value.oneCell']) ?_)
  have HU8 := hid (HU7.out.setRow hg7 (hni _ _ _) (hni _ _ _) #[.bool false, .slice Au ku cu, .slice Av5 kv5 cv5])
  have HV8 := hid (HV7.out.setRow hg7 (hni _ _ _) (hni _ _ _) #[.bool false, .slice Au ku cu, .slice Av5 kv5 cv5])
  have hg8 := setRow_heap w7 w.heap.size _ #[.bool false, .slice Au ku cu, .slice Av5 kv5 cv5] _ _ hg7
  have HW8 := hid (show Below w.heap.size w (w7.setRow w.heap.size #[.bool false, .slice Au ku cu, .slice Av5 kv5 cv5]) from below_setRow HW7.out (Nat.le_refl _) _)
  clear r0 r1 r2 hg7
  generalize w7.setRow w.heap.size #[.bool false, .slice Au ku cu, .slice Av5 kv5 cv5] = w8 at *
  go_wp2
  refine bodyPost_ret (results_cell_pair Try.results50 _ _ w.heap.size _ _ _ _ rfl hg8 Try.underlying48 rfl fr_size) rfl ⟨_, _, _, _, rfl, HU8.out, HV8.out, hb50, HW8.out⟩
end
end Go.Proofs.Ytpoaadjhaknhdaa

/- all, at fractions, numbers and Booleans. -/
namespace Go.Proofs.Ytpoaadjhaknhdaa
open Go Go.RowKit Go.Sort Go.Deep

/-- A slice of fractions. -/
def FrsAt (w : World) (v : Value) (n : Nat) : Prop := ∃ A c, v = .slice A n c ∧ n ≤ c ∧ c ≤ maxLen ∧ (0 < n → ∃ g off, A = some ⟨g, off, none⟩ ∧ ∀ j, j < n → FrAt w g (off + j * 3))
theorem FrsAt.below {w w' : World} {v : Value} {n : Nat} (h : FrsAt w v n) (hb : Below w.heap.size w w') : FrsAt w' v n := by
  obtain ⟨A, c, e, h1, h2, h3⟩ := h
  refine ⟨A, c, e, h1, h2, fun h0 => ?_⟩
  obtain ⟨g, off, e2, h4⟩ := h3 h0
  exact ⟨g, off, e2, fun j hj => (h4 j hj).below hb⟩
set_option maxRecDepth 100000 in
set_option maxHeartbeats 1600000 in
theorem all_frs_lim {w : World} {v : Value} {n : Nat} (h : FrsAt w v n) (hF : ∀ W u v a b, One W u a → One W v b → 0 < b → Calls Try.prog 47 #[frAgg false u v] W (BoolPost W)) : Calls Try.prog 49 #[v, .func (.func 47) #[] #[]] w (BoolPost w) := by
  obtain ⟨A, c, rfl, hn, hc, hs⟩ := h
  have HS := hid hs
  have HF := hid hF
  clear hs hF
  unfold maxLen at hc
  go_enter Try.func49, Try.ntmps49
  go_wp2_with fail
  go_loopw [9] (fun i wr => ∃ k : Nat, k ≤ n ∧ i = .int .i64 k ∧ Hid (Below w.heap.size w wr)) (fun i _ => (n - intOf i).toNat)
  case atStart => exact ⟨0, Nat.zero_le _, rfl, hid (Below.refl _ _)⟩
  case round =>
    obtain ⟨k, hk, rfl, HB⟩ := hrel
    by_cases hlt : k < n
    · obtain ⟨g, off, rfl, hfr⟩ := HS.out (by omega)
      obtain ⟨hg, u, v, a, b, y0, y1, y2, ha, hb, b0⟩ := hfr k hlt
      obtain ⟨U1, m1, c1, rfl⟩ := ha.sl
      obtain ⟨V1, m2, c2, rfl⟩ := hb.sl
      have z0 := (HB.out.cell (p := ⟨g, off + k * 3, none⟩) hg).trans y0
      have z1 := (HB.out.cell (p := ⟨g, off + k * 3 + 1, none⟩) hg).trans y1
      have z2 := (HB.out.cell (p := ⟨g, off + k * 3 + 2, none⟩) hg).trans y2
      have HA := hid (ha.below HB.out)
      have HBB := hid (hb.below HB.out)
      have hb4 := (Below.refl wr.heap.size wr).alloc (Nat.le_refl _) (.cells #[.bool false, .slice U1 m1 c1, .slice V1 m2 c2] 48)
      have HA4 := hid (HA.out.below hb4)
      have HB4 := hid (HBB.out.below hb4)
      have HX4 := hid (HB.out.trans (hb4.mono HB.out.size))
      clear y0 y1 y2 ha hb hfr hb4 HA HBB
      go_wp2_with fail
      refine (HF.out _ _ _ _ _ HA4.out HB4.out b0).mono ?_
      rintro e w5 ⟨bb, rfl, hb5⟩
      have HX5 := hid (HX4.out.trans (hb5.mono HX4.out.size))
      clear hb5 z0 z1 z2
      cases bb
      · go_wp2
        go_ret
        exact ⟨_, rfl, HX5.out⟩
      · go_wp2
        go_roundw
        case rel => exact ⟨k + 1, by omega, by go_num, HX5⟩
        case measure => (simp [intOf]; try omega)
    · obtain rfl : k = n := by omega
      go_wp2
      go_ret
      exact ⟨_, rfl, HB.out⟩
set_option maxRecDepth 100000 in
set_option maxHeartbeats 1600000 in
theorem rate_fr {w : World} {u v : Value} {a b : Nat} (ha : One w u a) (hb : One w v b) (b0 : 0 < b) : Calls Try.prog 78 #[frAgg false u v] w (BoolPost w) := by
  obtain ⟨U1, m1, c1, rfl⟩ := ha.sl
  obtain ⟨V1, m2, c2, rfl⟩ := hb.sl
  have hb1 := (Below.refl w.heap.size w).alloc (Nat.le_refl _) (.cells #[.bool false, .slice U1 m1 c1, .slice V1 m2 c2] 48)
  have HG := hid (heap_alloc_new w (.cells #[.bool false, .slice U1 m1 c1, .slice V1 m2 c2] 48))
  have HA := hid (ha.below hb1)
  have HB := hid (hb.below hb1)
  have HB1 := hid hb1
  clear ha hb hb1
  go_enter Try.func78, Try.ntmps78
  go_wp2_with fail
  generalize w.alloc (.cells #[.bool false, .slice U1 m1 c1, .slice V1 m2 c2] 48) = w1 at *
  refine (inlimits_fr HA.out HB.out b0).mono ?_
  rintro e w2 ⟨rfl, hb2⟩
  have hgg := (hb2.block _ (Array.getElem?_eq_some_iff.1 HG.out).1).trans HG.out
  have z0 := cell_block hgg 0
  have z1 := cell_block hgg 1
  have z2 := cell_block hgg 2
  simp only [List.getElem?_toArray, List.getElem?_cons_zero, List.getElem?_cons_succ] at z0 z1 z2
  have HA2 := hid (HA.out.below hb2)
  have HW2 := hid (HB1.out.trans (hb2.mono HB1.out.size))
  clear hb2 hgg
  go_wp2_with fail
  refine (above_fr HA2.out).mono ?_
  rintro e w3 ⟨rfl, hb3⟩
  generalize decide (0 < bitsN a) = c at *
  have HW3 := hid (HW2.out.trans (hb3.mono HW2.out.size))
  clear hb3 z0 z1 z2
  go_wp2
  go_ret
  exact ⟨_, rfl, HW3.out⟩
set_option maxRecDepth 100000 in
set_option maxHeartbeats 1600000 in
theorem all_frs_rate {w : World} {v : Value} {n : Nat} (h : FrsAt w v n) (hF : ∀ W u v a b, One W u a → One W v b → 0 < b → Calls Try.prog 78 #[frAgg false u v] W (BoolPost W)) : Calls Try.prog 49 #[v, .func (.func 78) #[] #[]] w (BoolPost w) := by
  obtain ⟨A, c, rfl, hn, hc, hs⟩ := h
  have HS := hid hs
  have HF := hid hF
  clear hs hF
  unfold maxLen at hc
  go_enter Try.func49, Try.ntmps49
  go_wp2_with fail
  go_loopw [9] (fun i wr => ∃ k : Nat, k ≤ n ∧ i = .int .i64 k ∧ Hid (Below w.heap.size w wr)) (fun i _ => (n - intOf i).toNat)
  case atStart => exact ⟨0, Nat.zero_le _, rfl, hid (Below.refl _ _)⟩
  case round =>
    obtain ⟨k, hk, rfl, HB⟩ := hrel
    by_cases hlt : k < n
    · obtain ⟨g, off, rfl, hfr⟩ := HS.out (by omega)
      obtain ⟨hg, u, v, a, b, y0, y1, y2, ha, hb, b0⟩ := hfr k hlt
      obtain ⟨U1, m1, c1, rfl⟩ := ha.sl
      obtain ⟨V1, m2, c2, rfl⟩ := hb.sl
      have z0 := (HB.out.cell (p := ⟨g, off + k * 3, none⟩) hg).trans y0
      have z1 := (HB.out.cell (p := ⟨g, off + k * 3 + 1, none⟩) hg).trans y1
      have z2 := (HB.out.cell (p := ⟨g, off + k * 3 + 2, none⟩) hg).trans y2
      have HA := hid (ha.below HB.out)
      have HBB := hid (hb.below HB.out)
      have hb4 := (Below.refl wr.heap.size wr).alloc (Nat.le_refl _) (.cells #[.bool false, .slice U1 m1 c1, .slice V1 m2 c2] 48)
      have HA4 := hid (HA.out.below hb4)
      have HB4 := hid (HBB.out.below hb4)
      have HX4 := hid (HB.out.trans (hb4.mono HB.out.size))
      clear y0 y1 y2 ha hb hfr hb4 HA HBB
      go_wp2_with fail
      refine (HF.out _ _ _ _ _ HA4.out HB4.out b0).mono ?_
      rintro e w5 ⟨bb, rfl, hb5⟩
      have HX5 := hid (HX4.out.trans (hb5.mono HX4.out.size))
      clear hb5 z0 z1 z2
      cases bb
      · go_wp2
        go_ret
        exact ⟨_, rfl, HX5.out⟩
      · go_wp2
        go_roundw
        case rel => exact ⟨k + 1, by omega, by go_num, HX5⟩
        case measure => (simp [intOf]; try omega)
    · obtain rfl : k = n := by omega
      go_wp2
      go_ret
      exact ⟨_, rfl, HB.out⟩
theorem lims_any {w : World} {v : Value} {n : Nat} (h : FrsAt w v n) : Calls Try.prog 49 #[v, .func (.func 47) #[] #[]] w (BoolPost w) :=
  all_frs_lim h fun _ _ _ _ _ h1 h2 h3 => (inlimits_fr h1 h2 h3).mono fun _ _ ⟨h4, h5⟩ => ⟨_, h4, h5⟩
theorem rates_any {w : World} {v : Value} {n : Nat} (h : FrsAt w v n) : Calls Try.prog 49 #[v, .func (.func 78) #[] #[]] w (BoolPost w) :=
  all_frs_rate h fun _ _ _ _ _ h1 h2 h3 => rate_fr h1 h2 h3
end Go.Proofs.Ytpoaadjhaknhdaa

/- in; all at numbers and Booleans; numbersOK, ratesOK. -/
namespace Go.Proofs.Ytpoaadjhaknhdaa
open Go Go.RowKit Go.Sort Go.Deep

theorem in_any (x lo hi : Int) (w : World) : Calls Try.prog 38 #[.int .i64 x, .int .i64 lo, .int .i64 hi] w fun e w' => e = .returned (.bool (decide (lo ≤ x ∧ x ≤ hi))) ∧ w = w' := by
  obtain ⟨c, hc⟩ : ∃ c, decide (lo ≤ x ∧ x ≤ hi) = c := ⟨_, rfl⟩
  rw [hc]
  have HC := hid hc
  clear hc
  by_cases h1 : lo ≤ x
  · by_cases h2 : x ≤ hi
    · obtain rfl : c = true := by rw [← HC.out]; simp [h1, h2]
      go_enter Try.func38, Try.ntmps38
      go_wp2
      go_ret
      exact ⟨by simp [h1, h2], rfl⟩
    · obtain rfl : c = false := by rw [← HC.out]; simp [h2]
      go_enter Try.func38, Try.ntmps38
      go_wp2
      go_ret
      exact ⟨by simp [h2], rfl⟩
  · obtain rfl : c = false := by rw [← HC.out]; simp [h1]
    go_enter Try.func38, Try.ntmps38
    go_wp2
    go_ret
    exact ⟨by simp [h1], rfl⟩
theorem in_bool (x lo hi : Int) (w : World) : Calls Try.prog 38 #[.int .i64 x, .int .i64 lo, .int .i64 hi] w fun e w' => (∃ c : Bool, e = .returned (.bool c) ∧ (c = true → lo ≤ x ∧ x ≤ hi)) ∧ w = w' :=
  (in_any x lo hi w).mono fun _ _ ⟨h, h2⟩ => ⟨⟨_, h, fun e => by simpa using e⟩, h2⟩
theorem spread_any (x : Int) (w : World) : Calls Try.prog 77 #[.int .i64 x] w (BoolPost w) := by
  go_enter Try.func77, Try.ntmps77
  go_wp2_with fail
  refine (in_bool x 0 8 w).mono ?_
  rintro e w2 ⟨⟨c, rfl, _⟩, rfl⟩
  go_wp2
  go_ret
  exact ⟨_, rfl, Below.refl _ _⟩
/-- A slice of numbers. -/
def NumsAt (w : World) (v : Value) (n : Nat) : Prop := ∃ A c, v = .slice A n c ∧ n ≤ c ∧ c ≤ maxLen ∧ (0 < n → ∃ g off, A = some ⟨g, off, none⟩ ∧ g < w.heap.size ∧ ∀ j, j < n → ∃ x : Int, w.cell? ⟨g, off + j, none⟩ = some (.int .i64 x))
theorem NumsAt.below {w w' : World} {v : Value} {n : Nat} (h : NumsAt w v n) (hb : Below w.heap.size w w') : NumsAt w' v n := by
  obtain ⟨A, c, e, h1, h2, h3⟩ := h
  refine ⟨A, c, e, h1, h2, fun h0 => ?_⟩
  obtain ⟨g, off, e2, hg, h4⟩ := h3 h0
  refine ⟨g, off, e2, Nat.lt_of_lt_of_le hg hb.size, fun j hj => ?_⟩
  obtain ⟨x, hx⟩ := h4 j hj
  exact ⟨x, (hb.cell (p := ⟨g, off + j, none⟩) hg).trans hx⟩
set_option maxRecDepth 100000 in
set_option maxHeartbeats 1600000 in
theorem all_ints {w : World} {v : Value} {n : Nat} (h : NumsAt w v n) : Calls Try.prog 76 #[v, .func (.func 77) #[] #[]] w (BoolPost w) := by
  obtain ⟨A, c, rfl, hn, hc, hs⟩ := h
  have HS := hid hs
  clear hs
  unfold maxLen at hc
  go_enter Try.func76, Try.ntmps76
  go_wp2_with fail
  go_loopw [9] (fun i wr => ∃ k : Nat, k ≤ n ∧ i = .int .i64 k ∧ Hid (Below w.heap.size w wr)) (fun i _ => (n - intOf i).toNat)
  case atStart => exact ⟨0, Nat.zero_le _, rfl, hid (Below.refl _ _)⟩
  case round =>
    obtain ⟨k, hk, rfl, HB⟩ := hrel
    by_cases hlt : k < n
    · obtain ⟨g, off, rfl, hg, hfr⟩ := HS.out (by omega)
      obtain ⟨x, hx⟩ := hfr k hlt
      have z0 := (HB.out.cell (p := ⟨g, off + k, none⟩) hg).trans hx
      clear hfr hx
      go_wp2_with fail
      refine (spread_any x wr).mono ?_
      rintro e w5 ⟨bb, rfl, hb5⟩
      have HX5 := hid (HB.out.trans (hb5.mono HB.out.size))
      clear hb5 z0
      cases bb
      · go_wp2
        go_ret
        exact ⟨_, rfl, HX5.out⟩
      · go_wp2
        go_roundw
        case rel => exact ⟨k + 1, by omega, by go_num, HX5⟩
        case measure => (simp [intOf]; try omega)
    · obtain rfl : k = n := by omega
      go_wp2
      go_ret
      exact ⟨_, rfl, HB.out⟩
set_option maxRecDepth 100000 in
set_option maxHeartbeats 1600000 in
theorem numbers_any {k m q s0 s1 s2 s3 s4 : Int} (hk : 0 ≤ k ∧ k ≤ 1000000) (hm : 0 ≤ m ∧ m ≤ 1000000) (w : World) : Calls Try.prog 54 #[.int .i64 k, .int .i64 m, .int .i64 q, .agg #[.int .i64 s0, .int .i64 s1, .int .i64 s2, .int .i64 s3, .int .i64 s4]] w (BoolPost w) := by
  obtain ⟨k0, k1⟩ := hk
  obtain ⟨m0, m1⟩ := hm
  have hb1 := (Below.refl w.heap.size w).alloc (Nat.le_refl _) (.cells #[.int .i64 s0, .int .i64 s1, .int .i64 s2, .int .i64 s3, .int .i64 s4] 43)
  have hg := heap_alloc_new w (.cells #[.int .i64 s0, .int .i64 s1, .int .i64 s2, .int .i64 s3, .int .i64 s4] 43)
  go_enter Try.func54, Try.ntmps54
  go_wp2_with fail
  have HN := hid (show NumsAt (w.alloc (.cells #[.int .i64 s0, .int .i64 s1, .int .i64 s2, .int .i64 s3, .int .i64 s4] 43)) (.slice (some ⟨w.heap.size, 0, none⟩) 5 5) 5 from ⟨_, 5, rfl, by omega, by unfold maxLen; omega, fun _ => ⟨_, 0, rfl, by simp, fun j hj => by
    rw [Nat.zero_add, cell_block hg j]
    match j, hj with
    | 0, _ => exact ⟨s0, rfl⟩
    | 1, _ => exact ⟨s1, rfl⟩
    | 2, _ => exact ⟨s2, rfl⟩
    | 3, _ => exact ⟨s3, rfl⟩
    | 4, _ => exact ⟨s4, rfl⟩⟩⟩)
  have z0 := cell_block hg 0
  simp only [List.getElem?_toArray, List.getElem?_cons_zero] at z0
  have HB := hid hb1
  clear hg hb1
  generalize w.alloc (.cells #[.int .i64 s0, .int .i64 s1, .int .i64 s2, .int .i64 s3, .int .i64 s4] 43) = w1 at *
  refine (in_bool k 1 6 w1).mono ?_
  rintro e w2 ⟨⟨c, rfl, _⟩, rfl⟩
  cases c
  · go_wp2
    go_ret
    exact ⟨_, rfl, HB.out⟩
  go_wp2_with fail
  refine (in_bool m 0 4 w1).mono ?_
  rintro e w2 ⟨⟨c, rfl, _⟩, rfl⟩
  cases c
  · go_wp2
    go_ret
    exact ⟨_, rfl, HB.out⟩
  by_cases h8 : k + m > 8
  · go_wp2
    go_ret
    exact ⟨_, rfl, HB.out⟩
  go_wp2_with fail
  refine (in_bool q k (k + m) w1).mono ?_
  rintro e w2 ⟨⟨c, rfl, _⟩, rfl⟩
  cases c
  · go_wp2
    go_ret
    exact ⟨_, rfl, HB.out⟩
  by_cases hs0 : s0 = 0
  · subst hs0
    go_wp2_with fail
    refine (all_ints HN.out).mono ?_
    rintro e w3 ⟨b, rfl, hb3⟩
    go_wp2
    go_ret
    exact ⟨_, rfl, HB.out.trans (hb3.mono HB.out.size)⟩
  · have hs1 := bne_iff_ne.2 hs0
    go_wp2
    go_ret
    exact ⟨_, rfl, HB.out⟩
end Go.Proofs.Ytpoaadjhaknhdaa
