/- validDomains. -/
import Derived.Test.YtpoaadjhaknhdaaW19
namespace Go.Proofs.Ytpoaadjhaknhdaa
open Go Go.RowKit Go.Sort Go.Deep

/-- A domain in memory. -/
structure DomAt (w : World) (g off : Nat) (nm : ByteArray) (lv pa up : Int) : Prop where
  c0 : w.cell? ⟨g, off, none⟩ = some (.string nm)
  c1 : w.cell? ⟨g, off + 1, none⟩ = some (.int .i64 lv)
  c2 : w.cell? ⟨g, off + 2, none⟩ = some (.int .i64 pa)
  c3 : w.cell? ⟨g, off + 3, none⟩ = some (.int .i64 up)
  fr : FrAt w g (off + 4)
theorem DomAt.below {w w' : World} {g off : Nat} {nm : ByteArray} {lv pa up : Int} (h : DomAt w g off nm lv pa up) (hb : Below w.heap.size w w') : DomAt w' g off nm lv pa up := by
  have hg := h.fr.1
  exact ⟨(hb.cell (p := ⟨g, off, none⟩) hg).trans h.c0, (hb.cell (p := ⟨g, off + 1, none⟩) hg).trans h.c1, (hb.cell (p := ⟨g, off + 2, none⟩) hg).trans h.c2, (hb.cell (p := ⟨g, off + 3, none⟩) hg).trans h.c3, h.fr.below hb⟩
structure DomsIn (w : World) (g off n : Nat) : Prop where
  root : DomAt w g off ⟨#[]⟩ 0 (-1) 0
  each : ∀ j, j < n → ∃ nm lv pa up, DomAt w g (off + j * 7) nm lv pa up ∧ -1000 ≤ lv ∧ lv ≤ 1000
theorem DomsIn.below {w w' : World} {g off n : Nat} (h : DomsIn w g off n) (hb : Below w.heap.size w w') : DomsIn w' g off n :=
  ⟨h.root.below hb, fun j hj => by
    obtain ⟨nm, lv, pa, up, h1, h2⟩ := h.each j hj
    exact ⟨nm, lv, pa, up, h1.below hb, h2⟩⟩
theorem wrap_small (x : Int) (h1 : -1000000 ≤ x) (h2 : x ≤ 1000000) : IntKind.i64.wrap x = x := by
  simp [IntKind.wrap, IntKind.bits, IntKind.signed]
  omega
abbrev fleetArr (ex : Int) (vl vm vd vr vp vv : Value) : Array Value := #[.int .i64 ex, vl, vm, vd, vr, vp, vv]
set_option maxRecDepth 100000 in
set_option maxHeartbeats 3200000 in
theorem domains_any {w : World} {ex : Int} {vl vm vr vp vv : Value} {g off n c : Nat} (h : DomsIn w g off n) (h1 : 1 ≤ n) (hc : n ≤ c) (hm : c ≤ maxLen) :
    Calls Try.prog 39 #[.agg (fleetArr ex vl vm (.slice (some ⟨g, off, none⟩) n c) vr vp vv)] w (BoolPost w) := by
  have hb1 := (Below.refl w.heap.size w).alloc (Nat.le_refl _) (.cells (fleetArr ex vl vm (.slice (some ⟨g, off, none⟩) n c) vr vp vv) 33)
  have hg1 := heap_alloc_new w (.cells (fleetArr ex vl vm (.slice (some ⟨g, off, none⟩) n c) vr vp vv) 33)
  have HD := hid (h.below hb1)
  have HB := hid hb1
  have z3 : (w.alloc (.cells (fleetArr ex vl vm (.slice (some ⟨g, off, none⟩) n c) vr vp vv) 33)).cell? ⟨w.heap.size, 3, none⟩ = some (.slice (some ⟨g, off, none⟩) n c) := cell_block hg1 3
  have HG := hid hg1
  have hn1 : ((n : Int) == 0) = false := by rw [beq_eq_false_iff_ne]; omega
  unfold maxLen at hm
  clear h hb1 hg1
  go_enter Try.func39, Try.ntmps39
  go_upto_region 3 with fail
  generalize w.alloc (.cells (fleetArr ex vl vm (.slice (some ⟨g, off, none⟩) n c) vr vp vv) 33) = w1 at *
  obtain ⟨r0, r1, r2, r3, hgs, ru, rv, ra, rb, r4, r5, r6, hru, hrv, rb0⟩ := HD.out.root
  obtain ⟨RU, m1, c1, rfl⟩ := hru.sl
  obtain ⟨RV, m2, c2, rfl⟩ := hrv.sl
  have HRU := hid hru
  have HRV := hid hrv
  have r5' : w1.cell? ⟨g, off + 5, none⟩ = some (.slice RU m1 c1) := r5
  have r6' : w1.cell? ⟨g, off + 6, none⟩ = some (.slice RV m2 c2) := r6
  clear hru hrv r5 r6
  go_upto_region 4 with fail
  have hb2 := (Below.refl w1.heap.size w1).alloc (Nat.le_refl _) (.cells #[.string ⟨#[]⟩, .int .i64 0, .int .i64 (-1), .int .i64 0, .bool false, .slice RU m1 c1, .slice RV m2 c2] 68)
  have hg2 := heap_alloc_new w1 (.cells #[.string ⟨#[]⟩, .int .i64 0, .int .i64 (-1), .int .i64 0, .bool false, .slice RU m1 c1, .slice RV m2 c2] 68)
  have HG2 := hid hg2
  have HB2 := hid hb2
  have HU2 := hid (HRU.out.below hb2)
  have HV2 := hid (HRV.out.below hb2)
  clear r0 r1 r2 r3 r4 r5' r6' hb2 hg2 HRU HRV
  go_wp2_with fail
  generalize w1.alloc (.cells #[.string ⟨#[]⟩, .int .i64 0, .int .i64 (-1), .int .i64 0, .bool false, .slice RU m1 c1, .slice RV m2 c2] 68) = w2 at *
  refine (inlimits_fr HU2.out HV2.out rb0).mono ?_
  rintro e w3 ⟨rfl, hb3⟩
  have hgg := (hb3.block _ (Array.getElem?_eq_some_iff.1 HG2.out).1).trans HG2.out
  have e4 := cell_block hgg 4
  have e5 := cell_block hgg 5
  have e6 := cell_block hgg 6
  simp only [List.getElem?_toArray, List.getElem?_cons_zero, List.getElem?_cons_succ] at e4 e5 e6
  have HU3 := hid (HU2.out.below hb3)
  have HB3 := hid (HB2.out.trans (hb3.mono HB2.out.size))
  clear hb3 hgg HU2 HV2
  go_wp2_with fail
  refine (above_fr HU3.out).mono ?_
  rintro e w4 ⟨rfl, hb4⟩
  generalize decide (0 < bitsN ra) = cc at *
  have HB4 := hid (HB3.out.trans (hb4.mono HB3.out.size))
  have z4 := cell_block ((HB4.out.block _ (Array.getElem?_eq_some_iff.1 HG.out).1).trans HG.out) 3
  simp only [fleetArr, List.getElem?_toArray, List.getElem?_cons_zero, List.getElem?_cons_succ] at z4
  clear hb4 e4 e5 e6 z3
  cases cc
  case true =>
    go_wp2
    go_ret
    exact ⟨_, rfl, HB.out.trans (HB4.out.mono HB.out.size)⟩
  have HW4 := hid (HB.out.trans (HB4.out.mono HB.out.size))
  by_cases hc1 : c = 1
  · subst hc1
    obtain rfl : n = 1 := by omega
    go_wp2_with fail
    refine wp_loop_rounds 1 ?_
    rw [rounds_succ]
    go_wp2
    go_ret
    exact ⟨_, rfl, HW4.out⟩
  have hI1 : (1 : Int) ≤ (n : Int) := by omega
  have hI2 : (n : Int) ≤ (c : Int) := by omega
  have hI3 : ((c : Int) - 1 == 0) = false := by rw [beq_eq_false_iff_ne]; omega
  have hI4 : ¬ (c : Int) - 1 = 0 := by omega
  obtain ⟨n', rfl⟩ : ∃ n', n = n' + 1 := ⟨n - 1, by omega⟩
  go_wp2_with fail
  go_loopw [47] (fun i wr => ∃ k : Nat, k ≤ n' ∧ i = .int .i64 k ∧ Hid (Below w1.heap.size w1 wr)) (fun i _ => (n' - intOf i).toNat)
  case atStart => exact ⟨0, Nat.zero_le _, rfl, HB4⟩
  case round =>
    obtain ⟨k, hk, rfl, HX⟩ := hrel
    by_cases hlt : k < n'
    · obtain ⟨nm, lv, pa, up, hdom, hl1, hl2⟩ := HD.out.each (k + 1) (by omega)
      rw [show off + (k + 1) * 7 = off + 7 + k * 7 by omega] at hdom
      have hwr := wrap_small (lv - 1) (by omega) (by omega)
      obtain ⟨x0, x1, x2, x3, hgs', u, v, a, b, x4, x5, x6, hu, hv, b0⟩ := hdom.below HX.out
      obtain ⟨U, m3, c3, rfl⟩ := hu.sl
      obtain ⟨V, m4, c4, rfl⟩ := hv.sl
      have x5' : wr.cell? ⟨g, off + 7 + k * 7 + 5, none⟩ = some (.slice U m3 c3) := x5
      have x6' : wr.cell? ⟨g, off + 7 + k * 7 + 6, none⟩ = some (.slice V m4 c4) := x6
      have hb5 := (Below.refl wr.heap.size wr).alloc (Nat.le_refl _) (.cells #[.string nm, .int .i64 lv, .int .i64 pa, .int .i64 up, .bool false, .slice U m3 c3, .slice V m4 c4] 68)
      have hg5 := heap_alloc_new wr (.cells #[.string nm, .int .i64 lv, .int .i64 pa, .int .i64 up, .bool false, .slice U m3 c3, .slice V m4 c4] 68)
      have d1 := cell_block hg5 1
      have d2 := cell_block hg5 2
      have d3 := cell_block hg5 3
      have d4 := cell_block hg5 4
      have d5 := cell_block hg5 5
      have d6 := cell_block hg5 6
      simp only [List.getElem?_toArray, List.getElem?_cons_zero, List.getElem?_cons_succ] at d1 d2 d3 d4 d5 d6
      have HU5 := hid (hu.below hb5)
      have HV5 := hid (hv.below hb5)
      have HX5 := hid (HX.out.trans (hb5.mono HX.out.size))
      have z5 := cell_block ((HX5.out.block _ (Array.getElem?_eq_some_iff.1 HG.out).1).trans HG.out) 3
      simp only [fleetArr, List.getElem?_toArray, List.getElem?_cons_zero, List.getElem?_cons_succ] at z5
      have HF5 := hid (HB.out.trans (HX5.out.mono HB.out.size))
      clear hu hv hb5 hg5 x5 x6
      clear z4
      go_upto_region 9 with fail
      clear x0 x1 x2 x3 x4 x5' x6'
      generalize wr.alloc (.cells #[.string nm, .int .i64 lv, .int .i64 pa, .int .i64 up, .bool false, .slice U m3 c3, .slice V m4 c4] 68) = w5 at *
      generalize wr.heap.size = q at *
      have q1 : ∀ n, (w5.drewN n).cell? ⟨q, 1, none⟩ = some (.int .i64 lv) := fun _ => d1
      have q3 : ∀ n, (w5.drewN n).cell? ⟨q, 3, none⟩ = some (.int .i64 up) := fun _ => d3
      have q4 : ∀ n, (w5.drewN n).cell? ⟨q, 4, none⟩ = some (.bool false) := fun _ => d4
      have q5 : ∀ n, (w5.drewN n).cell? ⟨q, 5, none⟩ = some (.slice U m3 c3) := fun _ => d5
      have q6 : ∀ n, (w5.drewN n).cell? ⟨q, 6, none⟩ = some (.slice V m4 c4) := fun _ => d6
      have qz : ∀ n, (w5.drewN n).cell? ⟨w.heap.size, 3, none⟩ = some (.slice (some ⟨g, off, none⟩) (n' + 1) c) := fun _ => z5
      have q2 : ∀ n, (w5.drewN n).cell? ⟨q, 2, none⟩ = some (.int .i64 pa) := fun _ => d2
      clear d1 d2 d3 d4 d5 d6 z5
      by_cases hp : 0 ≤ pa ∧ pa ≤ (k : Int)
      · obtain ⟨p, rfl⟩ := Int.eq_ofNat_of_zero_le hp.1
        have hpk : p ≤ k := by omega
        have I1 := hid (fun W => (show Calls Try.prog 38 #[.int .i64 (p : Int), .int .i64 0, .int .i64 (k : Int)] W (fun e w' => e = .returned (.bool true) ∧ W = w') from by have := in_any (p : Int) 0 k W; rwa [decide_eq_true hp] at this))
        obtain ⟨nm2, lvp, pa2, up2, hdom2, _, _⟩ := HD.out.each p (by omega)
        have l5' := (hdom2.below HX5.out).c1
        have l5 : ∀ n, (w5.drewN n).cell? ⟨g, off + p * 7 + 1, none⟩ = some (.int .i64 lvp) := fun _ => l5'
        clear l5'
        have hp0 : (0 : Int) ≤ (p : Int) := by omega
        have hp1 : (p : Int) < (n' : Int) + 1 := by omega
        clear hdom2
        by_cases hlv : lvp = lv - 1
        · subst hlv
          cases h2 : decide (1 ≤ lv ∧ lv ≤ 4)
          case false =>
            have I2 := hid (fun W => (show Calls Try.prog 38 #[.int .i64 lv, .int .i64 1, .int .i64 4] W (fun e w' => e = .returned (.bool false) ∧ W = w') from by have := in_any lv 1 4 W; rwa [h2] at this))
            clear h2 hp
            go_quiet ((go_at_call 38; first | with_reducible exact quiet_left (I1.out _) | with_reducible exact quiet_left (I2.out _)))
            all_goals
              go_wp2
              go_ret
              exact ⟨_, rfl, HF5.out.trans ((below_drew _ _).mono HF5.out.size)⟩
          case true =>
            have I2 := hid (fun W => (show Calls Try.prog 38 #[.int .i64 lv, .int .i64 1, .int .i64 4] W (fun e w' => e = .returned (.bool true) ∧ W = w') from by have := in_any lv 1 4 W; rwa [h2] at this))
            clear h2 hp
            cases h3 : decide (1 ≤ up ∧ up ≤ 64)
            case false =>
              have I3 := hid (fun W => (show Calls Try.prog 38 #[.int .i64 up, .int .i64 1, .int .i64 64] W (fun e w' => e = .returned (.bool false) ∧ W = w') from by have := in_any up 1 64 W; rwa [h3] at this))
              clear h3
              go_quiet ((go_at_call 38; first | with_reducible exact quiet_left (I1.out _) | with_reducible exact quiet_left (I2.out _) | with_reducible exact quiet_left (I3.out _)))
              all_goals
                go_wp2
                go_ret
                exact ⟨_, rfl, HF5.out.trans ((below_drew _ _).mono HF5.out.size)⟩
            case true =>
              have I3 := hid (fun W => (show Calls Try.prog 38 #[.int .i64 up, .int .i64 1, .int .i64 64] W (fun e w' => e = .returned (.bool true) ∧ W = w') from by have := in_any up 1 64 W; rwa [h3] at this))
              clear h3
              refine wp_region_quiet_tail 33 (fun w' => ∃ n, w' = w5.drewN n) ⟨1, rfl⟩ (by kernel_rfl) (by kernel_rfl) ?_
              simp only [List.take_succ_cons, List.take_zero, List.drop_succ_cons, List.drop_zero]
              repeat (go_big_quiet_step ((go_at_call 38; first | with_reducible exact quiet_left (I1.out _) | with_reducible exact quiet_left (I2.out _) | with_reducible exact quiet_left (I3.out _))))
              refine wpQuiet_nil ?_
              rintro _ ⟨nq, rfl⟩
              have HX5' := hid (HX5.out.trans ((below_drew w5 nq).mono HX5.out.size))
              have HU6 := hid (HU5.out.drewN nq)
              have HV6 := hid (HV5.out.drewN nq)
              go_wp2_with fail
              refine (inlimits_fr HU6.out HV6.out b0).mono ?_
              rintro e wx ⟨rfl, hb⟩
              have HX6 := hid (HX5'.out.trans (hb.mono HX5'.out.size))
              clear hb q1 q2 q3 q4 q5 q6 qz l5
              go_wp2
              go_roundw
              case rel => exact ⟨k + 1, by omega, by go_num, HX6⟩
              case measure => (simp [intOf]; try omega)
        · have hne : (lvp == lv - 1) = false := by rw [beq_eq_false_iff_ne]; exact hlv
          have hne2 : (lvp != lv - 1) = true := by simp [hlv]
          clear hp
          go_quiet ((go_at_call 38; first | with_reducible exact quiet_left (I1.out _)))
          all_goals
            go_wp2
            go_ret
            exact ⟨_, rfl, HF5.out.trans ((below_drew _ _).mono HF5.out.size)⟩
      · have I1 := hid (fun W => (show Calls Try.prog 38 #[.int .i64 pa, .int .i64 0, .int .i64 (k : Int)] W (fun e w' => e = .returned (.bool false) ∧ W = w') from by have := in_any pa 0 k W; rwa [decide_eq_false hp] at this))
        clear hp
        go_quiet ((go_at_call 38; first | with_reducible exact quiet_left (I1.out _)))
        all_goals
          go_wp2
          go_ret
          exact ⟨_, rfl, HF5.out.trans ((below_drew _ _).mono HF5.out.size)⟩
    · obtain rfl : k = n' := by omega
      go_wp2
      go_ret
      exact ⟨_, rfl, HB.out.trans (HX.out.mono HB.out.size)⟩
end Go.Proofs.Ytpoaadjhaknhdaa
