/- Fractions of numbers of one limb, not negative: Make, Reduce, Sum of one. -/
import Derived.Test.YtpoaadjhaknhdaaW10
namespace Go.Proofs.Ytpoaadjhaknhdaa
open Go Go.RowKit Go.Sort Go.Deep

/-- A fraction in memory. -/
def FrAt (w : World) (g off : Nat) : Prop := g < w.heap.size ∧ ∃ u v a b, w.cell? ⟨g, off, none⟩ = some (.bool false) ∧ w.cell? ⟨g, off + 1, none⟩ = some u ∧ w.cell? ⟨g, off + 2, none⟩ = some v ∧ One w u a ∧ One w v b ∧ 0 < b
theorem FrAt.below {w w' : World} {g off : Nat} (h : FrAt w g off) (hb : Below w.heap.size w w') : FrAt w' g off := by
  obtain ⟨hg, u, v, a, b, h1, h2, h3, h4, h5, h6⟩ := h
  exact ⟨Nat.lt_of_lt_of_le hg hb.size, u, v, a, b, (hb.cell (p := ⟨g, off, none⟩) hg).trans h1, (hb.cell (p := ⟨g, off + 1, none⟩) hg).trans h2, (hb.cell (p := ⟨g, off + 2, none⟩) hg).trans h3, h4.below hb, h5.below hb, h6⟩
section
variable {w : World} {u v : Value} {a b : Nat}
theorem abs_one (x : Nat) (hx : x < 4294967296) (w : World) : Calls Try.prog 69 #[.int .i64 (x : Int)] w fun e w' => ∃ v, e = .returned v ∧ One w' v x ∧ Below w.heap.size w w' := by
  have H := hid (make_one x hx w)
  have h0 : ¬ (x : Int) < 0 := by omega
  go_enter Try.func69, Try.ntmps69
  go_wp2_with fail
  refine H.out.mono ?_
  rintro e w2 ⟨v2, rfl, h2, hb2⟩
  go_wp2
  go_ret
  exact ⟨_, rfl, h2, hb2⟩
set_option maxRecDepth 100000 in
set_option maxHeartbeats 1600000 in
theorem make_fr (x y : Nat) (hx : x < 4294967296) (hy : y < 4294967296) (y0 : 0 < y) (w : World) : Calls Try.prog 51 #[.int .i64 (x : Int), .int .i64 (y : Int)] w fun e w' => ∃ u' v' a' b', e = .returned (.tuple #[frAgg false u' v', .int .i64 0]) ∧ One w' u' a' ∧ One w' v' b' ∧ a' ≤ x ∧ 0 < b' ∧ b' ≤ y ∧ Below w.heap.size w w' := by
  have HG := hid (heap_alloc_new w (.cells #[.bool false, .slice none 0 0, .slice none 0 0] 48))
  have HBL := hid ((Below.refl w.heap.size w).alloc (Nat.le_refl _) (.cells #[.bool false, .slice none 0 0, .slice none 0 0] 48))
  have h0 : ((y : Int) == 0) = false := by rw [beq_eq_false_iff_ne]; omega
  have h1 : ¬ (x : Int) < 0 := by omega
  have h2 : ¬ (y : Int) < 0 := by omega
  go_enter Try.func51, Try.ntmps51
  go_wp2_with fail
  generalize w.alloc (.cells #[.bool false, .slice none 0 0, .slice none 0 0] 48) = w1 at *
  refine (abs_one x hx w1).mono ?_
  rintro e w2 ⟨u2, rfl, hu2, hb2⟩
  have HU2 := hid hu2
  have HW2 := hid hb2
  clear hu2 hb2
  go_wp2_with fail
  refine (abs_one y hy w2).mono ?_
  rintro e w3 ⟨v3, rfl, hv3, hb3⟩
  have HU3 := hid (HU2.out.below hb3)
  have HV3 := hid hv3
  have HW3 := hid (HW2.out.trans (hb3.mono HW2.out.size))
  clear hv3 hb3 HU2 HW2
  go_wp2_with fail
  refine (lowest_fr HU3.out HV3.out y0).mono ?_
  rintro e w6 ⟨u6, v6, a6, b6, rfl, hu6, hv6, ha6, hb60, hb6l, hb6⟩
  obtain ⟨Au, ku, cu, rfl⟩ := hu6.sl
  obtain ⟨Av, kv, cv, rfl⟩ := hv6.sl
  have HU6 := hid hu6
  have HV6 := hid hv6
  have HL6 := hid (And.intro ha6 (And.intro hb60 hb6l))
  have HW6 := hid (HW3.out.trans (hb6.mono HW3.out.size))
  clear hu6 hv6 ha6 hb60 hb6l hb6
  have hg6 := (HW6.out.block _ (Array.getElem?_eq_some_iff.1 HG.out).1).trans HG.out
  go_wp2_with (refine wpList_store_row rfl 48 (.tmp 4) (.tmp 19) rfl w.heap.size #[.bool false, .slice Au ku cu, .slice Av kv cv] rfl rfl 48 _ hg6 fr_size rfl (by simp [Value.oneCell']) ?_)
  have hn1 : ∀ k i, Value.slice none 0 0 ≠ .int k i := fun k i e => by cases e
  have HU7 := hid (HU6.out.setRow hg6 hn1 hn1 #[.bool false, .slice Au ku cu, .slice Av kv cv])
  have HV7 := hid (HV6.out.setRow hg6 hn1 hn1 #[.bool false, .slice Au ku cu, .slice Av kv cv])
  have HB7 := hid (below_setRow (HBL.out.trans (HW6.out.mono HBL.out.size)) (Nat.le_refl _) #[.bool false, .slice Au ku cu, .slice Av kv cv])
  have hg7 := setRow_heap w6 w.heap.size _ #[.bool false, .slice Au ku cu, .slice Av kv cv] _ _ hg6
  clear hg6 hn1
  generalize w6.setRow w.heap.size #[.bool false, .slice Au ku cu, .slice Av kv cv] = w7 at *
  go_wp2
  refine bodyPost_ret (results_cell_pair Try.results51 _ _ w.heap.size _ _ _ _ rfl hg7 Try.underlying48 rfl fr_size) rfl ⟨_, _, _, _, rfl, HU7.out, HV7.out, HL6.out.1, HL6.out.2.1, HL6.out.2.2, HB7.out⟩
set_option maxRecDepth 100000 in
set_option maxHeartbeats 1600000 in
theorem reduce_fr (ha : One w u a) (hb : One w v b) (b0 : 0 < b) : Calls Try.prog 64 #[frAgg false u v] w fun e w' => ∃ u' v' a' b', e = .returned (.tuple #[frAgg false u' v', .int .i64 0]) ∧ One w' u' a' ∧ One w' v' b' ∧ a' ≤ a ∧ 0 < b' ∧ b' ≤ b ∧ Below w.heap.size w w' := by
  obtain ⟨U1, m1, c1, rfl⟩ := ha.sl
  obtain ⟨V1, m2, c2, rfl⟩ := hb.sl
  have hb1 := (Below.refl w.heap.size w).alloc (Nat.le_refl _) (.cells #[.bool false, .slice U1 m1 c1, .slice V1 m2 c2] 48)
  have hb2 := hb1.alloc hb1.size (.cells #[.bool false, .slice none 0 0, .slice none 0 0] 48)
  have hg1 := heap_alloc_new w (.cells #[.bool false, .slice U1 m1 c1, .slice V1 m2 c2] 48)
  have hg2 := heap_alloc_new (w.alloc (.cells #[.bool false, .slice U1 m1 c1, .slice V1 m2 c2] 48)) (.cells #[.bool false, .slice none 0 0, .slice none 0 0] 48)
  have hg1' := (Below.heap_alloc (w.alloc (.cells #[.bool false, .slice U1 m1 c1, .slice V1 m2 c2] 48)) (.cells #[.bool false, .slice none 0 0, .slice none 0 0] 48) w.heap.size (by simp)).trans hg1
  rw [show (w.alloc (.cells #[.bool false, .slice U1 m1 c1, .slice V1 m2 c2] 48)).heap.size = w.heap.size + 1 by simp] at hg2
  have HA := hid (ha.below hb2)
  have HB := hid (hb.below hb2)
  have HBL := hid hb2
  clear ha hb hb1 hb2 hg1
  go_enter Try.func64, Try.ntmps64
  go_wp2_with fail
  generalize (w.alloc (.cells #[.bool false, .slice U1 m1 c1, .slice V1 m2 c2] 48)).alloc (.cells #[.bool false, .slice none 0 0, .slice none 0 0] 48) = w1 at *
  have HG1 := hid hg1'
  have HG2 := hid hg2
  clear hg1' hg2
  refine (valid_fr HA.out HB.out b0).mono ?_
  rintro e w2 ⟨rfl, hb2⟩
  have hgg := (hb2.block _ (Array.getElem?_eq_some_iff.1 HG1.out).1).trans HG1.out
  have c20 : w2.cell? ⟨w.heap.size, 0, none⟩ = _ := cell_block hgg 0
  have c21 : w2.cell? ⟨w.heap.size, 1, none⟩ = _ := cell_block hgg 1
  have c22 : w2.cell? ⟨w.heap.size, 2, none⟩ = _ := cell_block hgg 2
  simp only [List.getElem?_toArray, List.getElem?_cons_zero, List.getElem?_cons_succ] at c20 c21 c22
  have HA2 := hid (HA.out.below hb2)
  have HB2 := hid (HB.out.below hb2)
  have HW2 := hid hb2
  clear hb2 hgg
  go_wp2_with fail
  refine (lowest_fr HA2.out HB2.out b0).mono ?_
  rintro e w6 ⟨u6, v6, a6, b6, rfl, hu6, hv6, ha6, hb60, hb6l, hb6⟩
  obtain ⟨Au, ku, cu, rfl⟩ := hu6.sl
  obtain ⟨Av, kv, cv, rfl⟩ := hv6.sl
  have HU6 := hid hu6
  have HV6 := hid hv6
  have HL6 := hid (And.intro ha6 (And.intro hb60 hb6l))
  have HW6 := hid (HW2.out.trans (hb6.mono HW2.out.size))
  clear hu6 hv6 ha6 hb60 hb6l hb6 c20 c21 c22
  have hg6 := (HW6.out.block _ (Array.getElem?_eq_some_iff.1 HG2.out).1).trans HG2.out
  go_wp2_with (refine wpList_store_row rfl 48 (.tmp 2) (.tmp 15) rfl (w.heap.size + 1) #[.bool false, .slice Au ku cu, .slice Av kv cv] rfl rfl 48 _ hg6 fr_size rfl (by simp [Value.oneCell']) ?_)
  have hn1 : ∀ k i, Value.slice none 0 0 ≠ .int k i := fun k i e => by cases e
  have HU7 := hid (HU6.out.setRow hg6 hn1 hn1 #[.bool false, .slice Au ku cu, .slice Av kv cv])
  have HV7 := hid (HV6.out.setRow hg6 hn1 hn1 #[.bool false, .slice Au ku cu, .slice Av kv cv])
  have HB7 := hid (below_setRow (HBL.out.trans (HW6.out.mono HBL.out.size)) (show w.heap.size ≤ w.heap.size + 1 by omega) #[.bool false, .slice Au ku cu, .slice Av kv cv])
  have hg7 := setRow_heap w6 (w.heap.size + 1) _ #[.bool false, .slice Au ku cu, .slice Av kv cv] _ _ hg6
  clear hg6 hn1
  generalize w6.setRow (w.heap.size + 1) #[.bool false, .slice Au ku cu, .slice Av kv cv] = w7 at *
  go_wp2
  refine bodyPost_ret (results_cell_pair Try.results64 _ _ (w.heap.size + 1) _ _ _ _ rfl hg7 Try.underlying48 rfl fr_size) rfl ⟨_, _, _, _, rfl, HU7.out, HV7.out, HL6.out.1, HL6.out.2.1, HL6.out.2.2, HB7.out⟩
end
end Go.Proofs.Ytpoaadjhaknhdaa
