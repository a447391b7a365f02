/- The reference's fractions: size, lowest, Make; and Frac of the maker. -/
import Derived.Test.YtpoaadjhaknhdaaW32
import Derived.Test.YtpoaadjhaknhdaaW11
namespace Go.Proofs.Ytpoaadjhaknhdaa
open Go Go.RowKit Go.Sort Go.Deep

/-- A fraction by value: numbers of one limb, no sign. -/
def FrOut (w w' : World) (e : Ending) : Prop := ∃ u v a b, e = .returned (frAgg false u v) ∧ One w' u a ∧ One w' v b ∧ 0 < b ∧ From w.heap.size u ∧ From w.heap.size v ∧ Below w.heap.size w w'
section
variable {w : World} {u v : Value} {a b : Nat}
theorem rsize_any (x : Nat) (hx : x < 4294967296) (w : World) : Calls Try.prog 31 #[.int .i64 (x : Int)] w fun e w' => e = .returned (.int .u64 (x : Int)) ∧ w = w' := by
  have h0 : ¬ (x : Int) < 0 := by omega
  go_enter Try.func31, Try.ntmps31
  go_wp2
  go_ret
  exact ⟨rfl, rfl⟩
set_option maxRecDepth 100000 in
set_option maxHeartbeats 1600000 in
theorem rlowest_fr (ha : One w u a) (hb : One w v b) (b0 : 0 < b) (hg : a = 0 ∨ Nat.gcd a b = 1) : Calls Try.prog 29 #[.bool false, u, v] w fun e w' => FrOut w w' e := by
  have hbl := (Below.refl w.heap.size w).alloc (Nat.le_refl _) (.cells #[.bool false, .slice none 0 0, .slice none 0 0] 48)
  have HA := hid (ha.below hbl)
  have HB := hid (hb.below hbl)
  have HG := hid (heap_alloc_new w (.cells #[.bool false, .slice none 0 0, .slice none 0 0] 48))
  have HBL := hid hbl
  have HGC := hid hg
  have hn1 : ∀ k i, Value.slice none 0 0 ≠ .int k i := fun k i e => by cases e
  have HN := hid hn1
  clear ha hb hbl hg hn1
  go_enter Try.func29, Try.ntmps29
  go_wp2_with fail
  generalize w.alloc (.cells #[.bool false, .slice none 0 0, .slice none 0 0] 48) = w1 at *
  refine (rtrim_one HA.out).mono ?_
  rintro e w2 ⟨u2, rfl, hu2, hb2, hfu⟩
  have HU2 := hid hu2
  have HX2 := hid hb2
  have HFU := hid (hfu.le HBL.out.size)
  clear hu2 hb2 hfu
  go_wp2_with fail
  refine (rtrim_one (HB.out.below HX2.out)).mono ?_
  rintro e w3 ⟨v3, rfl, hv3, hb3, hfv⟩
  have HFV := hid (hfv.le (Nat.le_trans HBL.out.size HX2.out.size))
  clear hfv
  have HU3 := hid (HU2.out.below hb3)
  have HV3 := hid hv3
  have HX3 := hid (HX2.out.trans (hb3.mono HX2.out.size))
  clear hv3 hb3 HU2 HX2
  rcases HU3.out.cases with ⟨rfl, A, ca, rfl, _⟩ | ⟨a0, ga, oa, ca, rfl, hga, ha1, hac, za⟩
  · obtain ⟨w4, hw4⟩ : ∃ x, w3.alloc (.cells #[.int .u32 1] 78) = x := ⟨_, rfl⟩
    have HFN := hid (show From w.heap.size (.slice (some ⟨w3.heap.size, 0, none⟩) 1 1) from fun g k c e => by injection e with e; injection e with e; subst e; exact Nat.le_trans HBL.out.size HX3.out.size)
    have HX4 := hid (show Below w1.heap.size w1 w4 from by rw [← hw4]; exact HX3.out.alloc HX3.out.size _)
    have HV4 := hid (show One w4 (.slice (some ⟨w3.heap.size, 0, none⟩) 1 1) 1 from by
      rw [← hw4]
      exact one_new w3 1 (by omega) 78 1 rfl)
    have hg4 : w4.heap[w.heap.size]? = some (.cells #[.bool false, .slice none 0 0, .slice none 0 0] 48 (0, 0)) := (HX4.out.block _ (Array.getElem?_eq_some_iff.1 HG.out).1).trans HG.out
    have hg3 : (w3.alloc (.cells #[.int .u32 1] 78)).heap[w.heap.size]? = some (.cells #[.bool false, .slice none 0 0, .slice none 0 0] 48 (0, 0)) := by rw [hw4]; exact hg4
    have HW := hid hw4
    have HG3 := hid hg3
    clear hw4 hg3
    go_wp2_with (refine wpList_store_row rfl 48 (.tmp 6) (.tmp 17) rfl w.heap.size #[.bool false, .slice none 0 0, .slice (some ⟨w3.heap.size, 0, none⟩) 1 1] rfl rfl 48 _ HG3.out fr_size rfl (by simp [Value.oneCell']) ?_)
    rw [HW.out]
    have HV5 := hid (HV4.out.setRow hg4 HN.out HN.out #[.bool false, .slice none 0 0, .slice (some ⟨w3.heap.size, 0, none⟩) 1 1])
    have HB5 := hid (below_setRow (HBL.out.trans (HX4.out.mono HBL.out.size)) (Nat.le_refl _) #[.bool false, .slice none 0 0, .slice (some ⟨w3.heap.size, 0, none⟩) 1 1])
    have hg5 := setRow_heap w4 w.heap.size _ #[.bool false, .slice none 0 0, .slice (some ⟨w3.heap.size, 0, none⟩) 1 1] _ _ hg4
    clear hg4
    generalize w4.setRow w.heap.size #[.bool false, .slice none 0 0, .slice (some ⟨w3.heap.size, 0, none⟩) 1 1] = w5 at *
    go_wp2
    refine bodyPost_ret (results_cell_row Try.results29 _ _ w.heap.size _ _ _ _ rfl hg5 Try.underlying48 rfl fr_size) rfl ⟨_, _, _, _, rfl, One.nil _, HV5.out, by omega, From.nil _, HFN.out, HB5.out⟩
  · have hgc : Nat.gcd a b = 1 := by
      rcases HGC.out with h | h
      · omega
      · exact h
    clear za
    obtain ⟨Av, kv, cv, rfl⟩ := HV3.out.sl
    go_wp2_with fail
    refine (rgcd_one HU3.out HV3.out).mono ?_
    rintro e w4 ⟨vg, rfl, hg, hb4⟩
    rw [hgc] at hg
    have HU4 := hid (HU3.out.below hb4)
    have HV4 := hid (HV3.out.below hb4)
    have HX4 := hid (HX3.out.trans (hb4.mono HX3.out.size))
    rcases hg.cases with ⟨h, _⟩ | ⟨_, gg, og, cg, rfl, hgg, hg1, hgc, zg⟩
    · omega
    have hg4 : w4.heap[w.heap.size]? = some (.cells #[.bool false, .slice none 0 0, .slice none 0 0] 48 (0, 0)) := (HX4.out.block _ (Array.getElem?_eq_some_iff.1 HG.out).1).trans HG.out
    have HG4 := hid hg4
    clear hg hb4 hg4
    go_wp2_with (refine wpList_store_row rfl 48 (.tmp 6) (.tmp 50) rfl w.heap.size #[.bool false, .slice (some ⟨ga, oa, none⟩) 1 ca, .slice Av kv cv] rfl rfl 48 _ HG4.out fr_size rfl (by simp [Value.oneCell']) ?_)
    have HU5 := hid (HU4.out.setRow HG4.out HN.out HN.out #[.bool false, .slice (some ⟨ga, oa, none⟩) 1 ca, .slice Av kv cv])
    have HV5 := hid (HV4.out.setRow HG4.out HN.out HN.out #[.bool false, .slice (some ⟨ga, oa, none⟩) 1 ca, .slice Av kv cv])
    have HB5 := hid (below_setRow (HBL.out.trans (HX4.out.mono HBL.out.size)) (Nat.le_refl _) #[.bool false, .slice (some ⟨ga, oa, none⟩) 1 ca, .slice Av kv cv])
    have hg5 := setRow_heap w4 w.heap.size _ #[.bool false, .slice (some ⟨ga, oa, none⟩) 1 ca, .slice Av kv cv] _ _ HG4.out
    clear HG4 zg
    generalize w4.setRow w.heap.size #[.bool false, .slice (some ⟨ga, oa, none⟩) 1 ca, .slice Av kv cv] = w5 at *
    go_wp2
    refine bodyPost_ret (results_cell_row Try.results29 _ _ w.heap.size _ _ _ _ rfl hg5 Try.underlying48 rfl fr_size) rfl ⟨_, _, _, _, rfl, HU5.out, HV5.out, b0, HFU.out, HFV.out, HB5.out⟩
set_option maxRecDepth 100000 in
set_option maxHeartbeats 1600000 in
theorem rmake_fr (x y : Nat) (hx : x < 4294967296) (hy : y < 4294967296) (y0 : 0 < y) (hg : x = 0 ∨ Nat.gcd x y = 1) (w : World) : Calls Try.prog 24 #[.int .i64 (x : Int), .int .i64 (y : Int)] w fun e w' => ∃ u v a b, e = .returned (.tuple #[frAgg false u v, .int .i64 0]) ∧ One w' u a ∧ One w' v b ∧ 0 < b ∧ From w.heap.size u ∧ From w.heap.size v ∧ Below w.heap.size w w' := by
  have HG := hid (heap_alloc_new w (.cells #[.bool false, .slice none 0 0, .slice none 0 0] 48))
  have HBL := hid ((Below.refl w.heap.size w).alloc (Nat.le_refl _) (.cells #[.bool false, .slice none 0 0, .slice none 0 0] 48))
  have h0 : ((y : Int) == 0) = false := by rw [beq_eq_false_iff_ne]; omega
  have h1 : ¬ (x : Int) < 0 := by omega
  have h2 : ¬ (y : Int) < 0 := by omega
  have HGC := hid hg
  have hn1 : ∀ k i, Value.slice none 0 0 ≠ .int k i := fun k i e => by cases e
  have HN := hid hn1
  clear hg hn1
  go_enter Try.func24, Try.ntmps24
  go_wp2_with fail
  generalize w.alloc (.cells #[.bool false, .slice none 0 0, .slice none 0 0] 48) = w1 at *
  refine (rsize_any x hx w1).mono ?_
  rintro e wx ⟨rfl, rfl⟩
  go_wp2_with fail
  refine (rmake_one x hx w1).mono ?_
  rintro e w2 ⟨u2, rfl, hu2, hb2⟩
  have HU2 := hid hu2
  have HW2 := hid hb2
  clear hu2 hb2
  go_wp2_with fail
  refine (rsize_any y hy w2).mono ?_
  rintro e wx ⟨rfl, rfl⟩
  go_wp2_with fail
  refine (rmake_one y hy w2).mono ?_
  rintro e w3 ⟨v3, rfl, hv3, hb3⟩
  have HU3 := hid (HU2.out.below hb3)
  have HV3 := hid hv3
  have HW3 := hid (HW2.out.trans (hb3.mono HW2.out.size))
  clear hv3 hb3 HU2 HW2
  go_wp2_with fail
  refine (rlowest_fr HU3.out HV3.out y0 HGC.out).mono ?_
  rintro e w6 ⟨u6, v6, a6, b6, rfl, hu6, hv6, hb60, hfu, hfv, hb6⟩
  obtain ⟨Au, ku, cu, rfl⟩ := hu6.sl
  obtain ⟨Av, kv, cv, rfl⟩ := hv6.sl
  have HU6 := hid hu6
  have HV6 := hid hv6
  have HFU := hid (hfu.le (Nat.le_trans HBL.out.size HW3.out.size))
  have HFV := hid (hfv.le (Nat.le_trans HBL.out.size HW3.out.size))
  have HW6 := hid (HW3.out.trans (hb6.mono HW3.out.size))
  clear hu6 hv6 hb6 hfu hfv
  have hg6 := (HW6.out.block _ (Array.getElem?_eq_some_iff.1 HG.out).1).trans HG.out
  go_wp2_with (refine wpList_store_row rfl 48 (.tmp 4) (.tmp 20) rfl w.heap.size #[.bool false, .slice Au ku cu, .slice Av kv cv] rfl rfl 48 _ hg6 fr_size rfl (by simp [Value.oneCell']) ?_)
  have HU7 := hid (HU6.out.setRow hg6 HN.out HN.out #[.bool false, .slice Au ku cu, .slice Av kv cv])
  have HV7 := hid (HV6.out.setRow hg6 HN.out HN.out #[.bool false, .slice Au ku cu, .slice Av kv cv])
  have HB7 := hid (below_setRow (HBL.out.trans (HW6.out.mono HBL.out.size)) (Nat.le_refl _) #[.bool false, .slice Au ku cu, .slice Av kv cv])
  have hg7 := setRow_heap w6 w.heap.size _ #[.bool false, .slice Au ku cu, .slice Av kv cv] _ _ hg6
  clear hg6
  generalize w6.setRow w.heap.size #[.bool false, .slice Au ku cu, .slice Av kv cv] = w7 at *
  go_wp2
  refine bodyPost_ret (results_cell_pair Try.results24 _ _ w.heap.size _ _ _ _ rfl hg7 Try.underlying48 rfl fr_size) rfl ⟨_, _, _, _, rfl, HU7.out, HV7.out, hb60, HFU.out, HFV.out, HB7.out⟩
set_option maxRecDepth 100000 in
set_option maxHeartbeats 1600000 in
theorem frac_any (x y : Nat) (hx : x < 4294967296) (hy : y < 4294967296) (y0 : 0 < y) (hg : x = 0 ∨ Nat.gcd x y = 1) (w : World) : Calls Try.prog 12 #[.int .i64 (x : Int), .int .i64 (y : Int)] w fun e w' => FrOut w w' e := by
  have HG := hid (heap_alloc_new w (.cells #[.bool false, .slice none 0 0, .slice none 0 0] 48))
  have HBL := hid ((Below.refl w.heap.size w).alloc (Nat.le_refl _) (.cells #[.bool false, .slice none 0 0, .slice none 0 0] 48))
  have hn1 : ∀ k i, Value.slice none 0 0 ≠ .int k i := fun k i e => by cases e
  have HN := hid hn1
  have HM := hid (fun w => rmake_fr x y hx hy y0 hg w)
  clear hn1
  go_enter Try.func12, Try.ntmps12
  go_wp2_with fail
  generalize w.alloc (.cells #[.bool false, .slice none 0 0, .slice none 0 0] 48) = w1 at *
  refine (HM.out w1).mono ?_
  rintro e w6 ⟨u6, v6, a6, b6, rfl, hu6, hv6, hb60, hfu, hfv, hb6⟩
  obtain ⟨Au, ku, cu, rfl⟩ := hu6.sl
  obtain ⟨Av, kv, cv, rfl⟩ := hv6.sl
  have HFU := hid (hfu.le HBL.out.size)
  have HFV := hid (hfv.le HBL.out.size)
  clear hfu hfv
  have HB0 := hid ((Below.refl w6.heap.size w6).alloc (Nat.le_refl _) (.cells #[.bool false, .slice Au ku cu, .slice Av kv cv] 48))
  have HU7 := hid (hu6.below HB0.out)
  have HV7 := hid (hv6.below HB0.out)
  have HW7 := hid (hb6.trans (HB0.out.mono hb6.size))
  have hgo7 := (HW7.out.block _ (Array.getElem?_eq_some_iff.1 HG.out).1).trans HG.out
  have HB7 := hid (HBL.out.trans (HW7.out.mono HBL.out.size))
  clear hu6 hv6 hb6
  go_wp2_with (refine wpList_store_row rfl 48 (.tmp 4) (.tmp 13) rfl w.heap.size #[.bool false, .slice Au ku cu, .slice Av kv cv] rfl rfl 48 _ hgo7 fr_size rfl (by simp [Value.oneCell']) ?_)
  have HU8 := hid (HU7.out.setRow hgo7 HN.out HN.out #[.bool false, .slice Au ku cu, .slice Av kv cv])
  have HV8 := hid (HV7.out.setRow hgo7 HN.out HN.out #[.bool false, .slice Au ku cu, .slice Av kv cv])
  have HB8 := hid (below_setRow HB7.out (Nat.le_refl _) #[.bool false, .slice Au ku cu, .slice Av kv cv])
  have hgo8 := setRow_heap _ w.heap.size _ #[.bool false, .slice Au ku cu, .slice Av kv cv] _ _ hgo7
  clear hgo7
  generalize World.setRow _ w.heap.size #[.bool false, .slice Au ku cu, .slice Av kv cv] = w8 at *
  go_wp2
  refine bodyPost_ret (results_cell_row Try.results12 _ _ w.heap.size _ _ _ _ rfl hgo8 Try.underlying48 rfl fr_size) rfl ⟨_, _, _, _, rfl, HU8.out, HV8.out, hb60, HFU.out, HFV.out, HB8.out⟩
end
end Go.Proofs.Ytpoaadjhaknhdaa
