/- DriveNews. -/
import Derived.Test.YtiodfnjblimmbaaEPair3
namespace Go.Proofs.Ytiodfnjblimmbaa
open Go Go.RowKit Go.Sort

set_option maxRecDepth 100000 in
set_option maxHeartbeats 2000000 in
theorem law_news (c r : Int) (w : World) :
    Calls Try.prog 4 #[.int .i64 c, .int .i64 r] w fun e w' => e = .returned (.bool true) ∧ Below w.heap.size w w' := by
  by_cases hno : r < 1 ∨ c < r ∨ 128 < c
  · have HNO := hid hno
    clear hno
    go_enter Try.func4, Try.ntmps4
    go_wp2_with fail
    refine (new_no c r _ HNO.out).mono ?_
    rintro e w1 ⟨rfl, rfl⟩
    go_wp2_with fail
    refine (ref_new_no c r _ HNO.out).mono ?_
    rintro e w1 ⟨rfl, rfl⟩
    go_wp2_with fail
    refine (awake26 _).mono ?_
    rintro e w2 ⟨rfl, hb2⟩
    go_wp2
    go_ret
    exact ⟨rfl, hb2⟩
  · obtain ⟨n, rfl⟩ := Int.eq_ofNat_of_zero_le (show 0 ≤ r by omega)
    have h1 : 1 ≤ n := by omega
    have h2 : (n : Int) ≤ c := by omega
    have h3 : c ≤ 128 := by omega
    have HOK := hid (newDv_ok c n h1 h2 h3)
    clear hno
    go_enter Try.func4, Try.ntmps4
    go_wp2_with fail
    refine (new_e c n _ h1 h2 h3).mono ?_
    rintro e w1 ⟨a, rfl, hd1, hb1⟩
    have HD1 := hid hd1
    have HB1 := hid hb1
    clear hd1 hb1
    go_wp2_with fail
    refine (ref_new c n _ h1 h2 h3).mono ?_
    rintro e w2 ⟨b, rfl, hd2, hb2⟩
    have hap : Apart (Grow NoOwn w w1) (Grow NoOwn w1 w2) := fun k e1 e2 => by
      rcases e1 with e1 | e1
      · exact e1.elim
      · rcases e2 with e2 | e2
        · exact e2.elim
        · omega
    have HBO := hid (show Both w2 (Grow NoOwn w w1) (Grow NoOwn w1 w2) a b (newDv c n) from ⟨HD1.out.below hb2, hd2, hap⟩)
    have hw2 := HB1.out.trans (hb2.mono HB1.out.size)
    clear hap hd2 hb2 HD1 HB1
    generalize Grow NoOwn w w1 = p1 at *
    generalize Grow NoOwn w1 w2 = p2 at *
    go_wp2_with fail
    refine (awake26 _).mono ?_
    rintro e w3 ⟨rfl, hb3⟩
    have HBO3 := hid (HBO.out.below hb3)
    have hw3 := hw2.trans (hb3.mono hw2.size)
    clear HBO hw2 hb3
    go_wp2_with fail
    refine (alike_any HBO3.out HOK.out).mono ?_
    rintro e w4 ⟨rfl, hb4⟩
    have hw4 := hw3.trans (hb4.mono hw3.size)
    clear HBO3 hw3 hb4
    go_wp2
    go_ret
    exact ⟨rfl, hw4⟩
end Go.Proofs.Ytiodfnjblimmbaa
