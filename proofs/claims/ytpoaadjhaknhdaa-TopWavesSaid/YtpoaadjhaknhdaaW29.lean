/- topology: shape, Shaped; rollout: usable, check. -/
import Derived.Test.YtpoaadjhaknhdaaW28
namespace Go.Proofs.Ytpoaadjhaknhdaa
open Go Go.RowKit Go.Sort Go.Deep

theorem held_fleet {w1 W : World} {b : Nat} {ex : Int} {vl vm vd vr vp vv : Value} {t : TypeId} {f : Nat × Nat} (h : w1.heap[b]? = some (.cells (fleetArr ex vl vm vd vr vp vv) t f)) (hW : Below w1.heap.size w1 W) : W.cell? ⟨b, 0, none⟩ = some (.int .i64 ex) ∧ W.cell? ⟨b, 1, none⟩ = some vl ∧ W.cell? ⟨b, 2, none⟩ = some vm ∧ W.cell? ⟨b, 3, none⟩ = some vd ∧ W.cell? ⟨b, 4, none⟩ = some vr ∧ W.cell? ⟨b, 5, none⟩ = some vp ∧ W.cell? ⟨b, 6, none⟩ = some vv := by
  have hg := (hW.block _ (Array.getElem?_eq_some_iff.1 h).1).trans h
  exact ⟨cell_block hg 0, cell_block hg 1, cell_block hg 2, cell_block hg 3, cell_block hg 4, cell_block hg 5, cell_block hg 6⟩
theorem vio_size : (Try.prog.info? 109).map (·.size) = some 3 := by kernel_rfl
section
variable {w : World} {ex : Int} {vl vm vd vr vp vv vn : Value} {nl nd nr np nv : Nat} {KM : List (Nat × Nat)} {rows : List (List Int)}
theorem frag_len (h : FleetK w vl vm vd vr vp vv nl nd nr np nv KM) (q : Nat) (hq : q < KM.length) (n : Nat) (hn : n = KM[q].1 + KM[q].2) : Calls Try.prog 57 #[.agg (fleetArr ex vl vm vd vr vp vv), .int .i64 (q : Int)] w fun e w' => e = .returned (.int .i64 (n : Int)) ∧ Below w.heap.size w w' := by
  subst hn
  rw [Int.natCast_add]
  exact frag_any h q hq
set_option maxRecDepth 100000 in
set_option maxHeartbeats 3200000 in
theorem shape_any (h : FleetK w vl vm vd vr vp vv nl nd nr np nv KM) (hn : RowsAt w vn rows) (q : Nat) (hq : q < KM.length) (hlen : rows.length = KM.length) (row : List Int) (hrow : rows[q]? = some row) (hrl : row.length = KM[q].1 + KM[q].2) (hre : ∀ x ∈ row, -1 ≤ x ∧ x < (nr : Int)) :
    Calls Try.prog 44 #[.agg (fleetArr ex vl vm vd vr vp vv), vn, .int .i64 (q : Int)] w fun e w' => e = .returned (.tuple #[.agg #[.int .i64 0, .int .i64 0, .int .i64 0], .bool false]) ∧ Below w.heap.size w w' := by
  obtain ⟨A0, c0, A1, c1, A2, c2, A3, c3, A4, c4, A5, c5, rfl, rfl, rfl, rfl, rfl, rfl⟩ := h.fleet.slices
  have hsz := h.fleet.sizes
  have hb1 := (Below.refl w.heap.size w).alloc (Nat.le_refl _) (.cells (fleetArr ex (.slice A0 nl c0) (.slice A1 2 c1) (.slice A2 nd c2) (.slice A3 nr c3) (.slice A4 np c4) (.slice A5 nv c5)) 33)
  have hb2 := hb1.alloc hb1.size (.cells #[.int .i64 0, .int .i64 0, .int .i64 0] 109)
  have hg1 := heap_alloc_new w (.cells (fleetArr ex (.slice A0 nl c0) (.slice A1 2 c1) (.slice A2 nd c2) (.slice A3 nr c3) (.slice A4 np c4) (.slice A5 nv c5)) 33)
  have hg2 := heap_alloc_new (w.alloc (.cells (fleetArr ex (.slice A0 nl c0) (.slice A1 2 c1) (.slice A2 nd c2) (.slice A3 nr c3) (.slice A4 np c4) (.slice A5 nv c5)) 33)) (.cells #[.int .i64 0, .int .i64 0, .int .i64 0] 109)
  have hg1' := (Below.heap_alloc (w.alloc (.cells (fleetArr ex (.slice A0 nl c0) (.slice A1 2 c1) (.slice A2 nd c2) (.slice A3 nr c3) (.slice A4 np c4) (.slice A5 nv c5)) 33)) (.cells #[.int .i64 0, .int .i64 0, .int .i64 0] 109) w.heap.size (by simp)).trans hg1
  rw [show (w.alloc (.cells (fleetArr ex (.slice A0 nl c0) (.slice A1 2 c1) (.slice A2 nd c2) (.slice A3 nr c3) (.slice A4 np c4) (.slice A5 nv c5)) 33)).heap.size = w.heap.size + 1 by simp] at hg2
  have HK := hid (h.below hb2)
  have HN := hid (hn.below hb2)
  have HB := hid hb2
  have HG1 := hid hg1'
  have HG2 := hid hg2
  have hqr : q < rows.length := by omega
  have hlm : rows.length ≤ 100 := by have := h.vols.len; omega
  obtain ⟨An, cn, rfl, hnc, hnm, _⟩ := hn
  obtain ⟨A', c', e, _, _, hro⟩ := HN.out
  obtain ⟨gn, on, rfl, hgn, hrw⟩ := hro (by omega)
  injection e with e1 _ e3
  subst e1 e3
  obtain ⟨u, hu, hlist⟩ := hrw q hqr
  obtain rfl : rows[q] = row := by rw [List.getElem?_eq_getElem hqr] at hrow; injection hrow
  obtain ⟨row, hrowe⟩ : ∃ row, rows[q] = row := ⟨_, rfl⟩
  rw [hrowe] at hlist hrl hre
  obtain ⟨nq, hnq⟩ : ∃ n, row.length = n := ⟨_, rfl⟩
  obtain ⟨Al, cl, rfl, hlc, hlm2, hls⟩ := id hlist
  have HLS := hid hls
  have HRE := hid hre
  have HRL := hid (show nq = KM[q].1 + KM[q].2 from hnq.symm.trans hrl)
  have HNQ := hid hnq
  have hn4 : nq ≤ 4 := by have := h.vols.small _ (List.getElem_mem hq); rw [HRL.out]; omega
  obtain ⟨nR, hnR⟩ : ∃ n, rows.length = n := ⟨_, rfl⟩
  rw [hnR] at hnc hqr hlm ⊢
  have HNR := hid hnR
  rw [hnq] at hlc hu
  unfold maxLen at hnm hlm2
  have hx0 : (q : Int) < (nR : Int) := by omega
  clear hls hre hrl hnq hnR hrowe hrow hlist hrw hro hb1 hb2 hg1 hg1' hg2 h hlen
  go_enter Try.func44, Try.ntmps44
  go_upto_region 1 with fail
  generalize (w.alloc (.cells (fleetArr ex (.slice A0 nl c0) (.slice A1 2 c1) (.slice A2 nd c2) (.slice A3 nr c3) (.slice A4 np c4) (.slice A5 nv c5)) 33)).alloc (.cells #[.int .i64 0, .int .i64 0, .int .i64 0] 109) = w2 at *
  have HS := hid (fun (W : World) (hW : Below w2.heap.size w2 W) => And.intro (held_fleet HG1.out hW) ((hW.cell (p := ⟨gn, on + q, none⟩) hgn).trans hu))
  have HW := hid ((Below.refl w2.heap.size w2).drew)
  clear hu
  go_region_held3 (fun w' => (w'.cell? ⟨w.heap.size, 0, none⟩ = some (.int .i64 ex) ∧ w'.cell? ⟨w.heap.size, 1, none⟩ = some (.slice A0 nl c0) ∧ w'.cell? ⟨w.heap.size, 2, none⟩ = some (.slice A1 2 c1) ∧ w'.cell? ⟨w.heap.size, 3, none⟩ = some (.slice A2 nd c2) ∧ w'.cell? ⟨w.heap.size, 4, none⟩ = some (.slice A3 nr c3) ∧ w'.cell? ⟨w.heap.size, 5, none⟩ = some (.slice A4 np c4) ∧ w'.cell? ⟨w.heap.size, 6, none⟩ = some (.slice A5 nv c5)) ∧ w'.cell? ⟨gn, on + q, none⟩ = some (.slice Al nq cl))
    (first | (with_reducible exact HS.out _ HW.out))
    ((go_at_call 57; refine (frag_len (HK.out.below HW.out) q hq nq HRL.out).mono ?_; rintro e wx ⟨rfl, hb⟩; replace HW := hid (HW.out.trans (hb.mono HW.out.size)); clear hb))
  rename World => wr
  have HX := hid (show Below w.heap.size w wr from HB.out.trans (HW.out.mono HB.out.size))
  have ⟨⟨_, _, _, _, f4, _, _⟩, hrc⟩ := HS.out _ HW.out
  have HLS2 := hid (fun (h0 : 0 < row.length) => by
    obtain ⟨g, off, e, hg, hc⟩ := HLS.out h0
    exact (⟨g, off, e, fun j hj => (HW.out.cell (p := ⟨g, off + j, none⟩) hg).trans (hc j hj)⟩ : ∃ g off, Al = some ⟨g, off, none⟩ ∧ ∀ j (h : j < row.length), wr.cell? ⟨g, off + j, none⟩ = some (.int .i64 row[j])))
  have HG3 := hid ((HW.out.block _ (Array.getElem?_eq_some_iff.1 HG2.out).1).trans HG2.out)
  clear HW HLS HG1 HG2 HB HS
  go_wp2_with fail
  go_loopw [31] (fun i wx => ∃ p : Nat, p ≤ nq ∧ i = .int .i64 p ∧ Hid (wx = wr)) (fun i _ => (nq - intOf i).toNat)
  case atStart => exact ⟨0, Nat.zero_le _, rfl, hid rfl⟩
  case round =>
    obtain ⟨p, hp, rfl, HW2⟩ := hrel
    obtain rfl := HW2.out
    by_cases hpl : p < nq
    · obtain ⟨gl, ol, rfl, hcl⟩ := HLS2.out (by rw [HNQ.out]; omega)
      have hpr : p < row.length := by rw [HNQ.out]; exact hpl
      have z0 := hcl p hpr
      obtain ⟨hd1, hd2⟩ := HRE.out row[p] (List.getElem_mem hpr)
      generalize row[p] = d at *
      clear hcl hpr
      have e1 : ¬ d < -1 := by omega
      have e2 : ¬ (nr : Int) ≤ d := by omega
      go_wp2
      refine ⟨?_, ?_⟩
      · first
          | exact ⟨p + 1, by omega, by go_num, (by first | exact hid rfl | exact hid trivial)⟩
          | (iterate 40 (try apply Exists.intro); refine ⟨?_, rfl⟩; exact ⟨p + 1, by omega, by go_num, (by first | exact hid rfl | exact hid trivial)⟩)
      · (simp [intOf]; try omega)
    · obtain rfl : p = nq := by omega
      clear hrc f4
      go_wp2_with (refine wpList_store_row rfl 109 (.tmp 6) (.tmp 49) rfl (w.heap.size + 1) #[.int .i64 0, .int .i64 0, .int .i64 0] rfl rfl 109 _ HG3.out vio_size rfl (by simp [Value.oneCell']) ?_)
      have HB7 := hid (below_setRow HX.out (Nat.le_succ _) #[.int .i64 0, .int .i64 0, .int .i64 0])
      have hg7 := setRow_heap wr (w.heap.size + 1) _ #[.int .i64 0, .int .i64 0, .int .i64 0] _ _ HG3.out
      refine bodyPost_ret (results_cell_pair Try.results44 _ _ (w.heap.size + 1) _ _ _ _ rfl hg7 Try.underlying109 rfl vio_size) rfl ⟨rfl, HB7.out⟩
set_option maxRecDepth 100000 in
set_option maxHeartbeats 3200000 in
theorem shaped_any (h : FleetK w vl vm vd vr vp vv nl nd nr np nv KM) (hn : RowsAt w vn rows) (hlen : rows.length = KM.length) (hrl : ∀ q (h1 : q < rows.length) (h2 : q < KM.length), rows[q].length = KM[q].1 + KM[q].2) (hre : ∀ x ∈ rows, ∀ d ∈ x, -1 ≤ d ∧ d < (nr : Int)) :
    Calls Try.prog 33 #[.agg (fleetArr ex vl vm vd vr vp vv), vn] w (BoolPost w) := by
  obtain ⟨A0, c0, A1, c1, A2, c2, A3, c3, A4, c4, A5, c5, rfl, rfl, rfl, rfl, rfl, rfl⟩ := h.fleet.slices
  have hb1 := (Below.refl w.heap.size w).alloc (Nat.le_refl _) (.cells (fleetArr ex (.slice A0 nl c0) (.slice A1 2 c1) (.slice A2 nd c2) (.slice A3 nr c3) (.slice A4 np c4) (.slice A5 nv c5)) 33)
  have hg1 := heap_alloc_new w (.cells (fleetArr ex (.slice A0 nl c0) (.slice A1 2 c1) (.slice A2 nd c2) (.slice A3 nr c3) (.slice A4 np c4) (.slice A5 nv c5)) 33)
  have HK := hid (h.below hb1)
  have HN := hid (hn.below hb1)
  have HB := hid hb1
  have HG := hid hg1
  have HRL := hid hrl
  have HRE := hid hre
  have hnv : nv = KM.length := by
    obtain ⟨_, _, _, _, _, _, _, _, _, _, e, _⟩ := h.vols
    injection e
  subst hnv
  obtain ⟨An, cn, rfl, hnc, hnm, _⟩ := hn
  have hlm : KM.length ≤ 100 := h.vols.len
  rw [hlen] at hnc ⊢
  have HLEN := hid hlen
  unfold maxLen at hnm
  clear hb1 hg1 h hrl hre hlen
  go_enter Try.func33, Try.ntmps33
  go_wp2_with fail
  generalize w.alloc (.cells (fleetArr ex (.slice A0 nl c0) (.slice A1 2 c1) (.slice A2 nd c2) (.slice A3 nr c3) (.slice A4 np c4) (.slice A5 KM.length c5)) 33) = w1 at *
  refine (topvalid_any HK.out.fleet).mono ?_
  rintro e w2 ⟨b, rfl, hb2⟩
  have HW := hid hb2
  clear hb2
  cases b
  · go_wp2
    go_ret
    exact ⟨_, rfl, HB.out.trans (HW.out.mono HB.out.size)⟩
  have ⟨f0, f1, f2, f3, f4, f5, f6⟩ := held_fleet HG.out HW.out
  go_wp2_with fail
  go_loopw [21] (fun i wx => ∃ p : Nat, p ≤ KM.length ∧ i = .int .i64 p ∧ Hid (Below w1.heap.size w1 wx)) (fun i _ => (KM.length - intOf i).toNat)
  case atStart => exact ⟨0, Nat.zero_le _, rfl, HW⟩
  case round =>
    obtain ⟨p, hp, rfl, HW2⟩ := hrel
    clear f0 f1 f2 f3 f4 f5 f6
    by_cases hpl : p < KM.length
    · have hpr : p < rows.length := by rw [HLEN.out]; exact hpl
      have ⟨f0, f1, f2, f3, f4, f5, f6⟩ := held_fleet HG.out HW2.out
      go_wp2_with fail
      refine (shape_any (HK.out.below HW2.out) (by rw [← HLEN.out]; exact HN.out.below HW2.out) p hpl HLEN.out rows[p] (List.getElem?_eq_getElem hpr) (HRL.out p hpr hpl) (HRE.out _ (List.getElem_mem hpr))).mono ?_
      rintro e w3 ⟨rfl, hb3⟩
      have HW3 := hid (HW2.out.trans (hb3.mono HW2.out.size))
      clear hb3 f0 f1 f2 f3 f4 f5 f6
      go_wp2
      refine ⟨?_, ?_⟩
      · first
          | exact ⟨p + 1, by omega, by go_num, hid (HW3.out.alloc HW3.out.size _)⟩
         
      · (simp [intOf]; try omega)
    · obtain rfl : p = KM.length := by omega
      go_wp2
      go_ret
      exact ⟨_, rfl, HB.out.trans (HW2.out.mono HB.out.size)⟩
set_option maxRecDepth 100000 in
set_option maxHeartbeats 3200000 in
theorem usable_any (h : FleetK w vl vm vd vr vp vv nl nd nr np nv KM) (hn : RowsAt w vn rows) (hlen : rows.length = KM.length) (hrl : ∀ q (h1 : q < rows.length) (h2 : q < KM.length), rows[q].length = KM[q].1 + KM[q].2) (hre : ∀ x ∈ rows, ∀ d ∈ x, -1 ≤ d ∧ d < (nr : Int)) (r : Int) (hr : 0 ≤ r ∧ r ≤ 4) :
    Calls Try.prog 25 #[.agg (fleetArr ex vl vm vd vr vp vv), vn, .int .i64 r] w (BoolPost w) := by
  obtain ⟨A0, c0, A1, c1, A2, c2, A3, c3, A4, c4, A5, c5, rfl, rfl, rfl, rfl, rfl, rfl⟩ := h.fleet.slices
  have hb1 := (Below.refl w.heap.size w).alloc (Nat.le_refl _) (.cells (fleetArr ex (.slice A0 nl c0) (.slice A1 2 c1) (.slice A2 nd c2) (.slice A3 nr c3) (.slice A4 np c4) (.slice A5 nv c5)) 33)
  have hg1 := heap_alloc_new w (.cells (fleetArr ex (.slice A0 nl c0) (.slice A1 2 c1) (.slice A2 nd c2) (.slice A3 nr c3) (.slice A4 np c4) (.slice A5 nv c5)) 33)
  have HK := hid (h.below hb1)
  have HN := hid (hn.below hb1)
  have HB := hid hb1
  have HG := hid hg1
  have HRL := hid hrl
  have HRE := hid hre
  have HLEN := hid hlen
  obtain ⟨hr0, hr4⟩ := hr
  clear hb1 hg1 h hrl hre hlen hn
  go_enter Try.func25, Try.ntmps25
  go_wp2_with fail
  generalize w.alloc (.cells (fleetArr ex (.slice A0 nl c0) (.slice A1 2 c1) (.slice A2 nd c2) (.slice A3 nr c3) (.slice A4 np c4) (.slice A5 nv c5)) 33) = w1 at *
  refine (validate_any HK.out.fleet).mono ?_
  rintro e w2 ⟨k, rfl, hb2⟩
  have HW := hid hb2
  clear hb2
  by_cases hk : k = 0
  · subst hk
    have ⟨f0, f1, f2, f3, f4, f5, f6⟩ := held_fleet HG.out HW.out
    go_wp2_with fail
    refine (shaped_any (HK.out.below HW.out) (HN.out.below HW.out) HLEN.out HRL.out HRE.out).mono ?_
    rintro e w3 ⟨b, rfl, hb3⟩
    have HW3 := hid (HB.out.trans ((HW.out.trans (hb3.mono HW.out.size)).mono HB.out.size))
    clear hb3 f0 f1 f2 f3 f4 f5 f6
    cases b <;> (go_wp2; go_ret; exact ⟨_, rfl, HW3.out⟩)
  · have hk2 : (k == 0) = false := by rw [beq_eq_false_iff_ne]; exact hk
    go_wp2
    go_ret
    exact ⟨_, rfl, HB.out.trans (HW.out.mono HB.out.size)⟩
def CheckPost (rows : List (List Int)) (KM : List (Nat × Nat)) (r : Int) (nr : Nat) (w : World) (e : Ending) (w' : World) : Prop := ∃ k : Int, e = .returned (.int .i64 k) ∧ (k = 0 → ∀ d : Nat, d < nr → FitsAll rows [(d : Int)] KM r) ∧ Below w.heap.size w w'
theorem list_one {w : World} {b : Nat} {d : Int} {t : TypeId} (hg : w.heap[b]? = some (.cells #[.int .i64 d] t)) : ListAt w (.slice (some ⟨b, 0, none⟩) 1 1) [d] := by
  refine ⟨_, 1, rfl, Nat.le_refl _, by unfold maxLen; omega, fun _ => ⟨b, 0, rfl, (Array.getElem?_eq_some_iff.1 hg).1, fun j hj => ?_⟩⟩
  have h0 : j = 0 := by simp at hj; omega
  subst h0
  exact cell_block hg 0
set_option maxRecDepth 100000 in
set_option maxHeartbeats 3200000 in
theorem check_any (h : FleetK w vl vm vd vr vp vv nl nd nr np nv KM) (hn : RowsAt w vn rows) (hlen : rows.length = KM.length) (hrl : ∀ q (h1 : q < rows.length) (h2 : q < KM.length), rows[q].length = KM[q].1 + KM[q].2) (hre : ∀ x ∈ rows, ∀ d ∈ x, -1 ≤ d ∧ d < (nr : Int)) (hrow : ∀ x ∈ rows, x.length ≤ 100) (r : Int) (hr : 0 ≤ r ∧ r ≤ 4) :
    Calls Try.prog 17 #[.agg (fleetArr ex vl vm vd vr vp vv), vn, .int .i64 r] w (CheckPost rows KM r nr w) := by
  obtain ⟨A0, c0, A1, c1, A2, c2, A3, c3, A4, c4, A5, c5, rfl, rfl, rfl, rfl, rfl, rfl⟩ := h.fleet.slices
  have hb1 := (Below.refl w.heap.size w).alloc (Nat.le_refl _) (.cells (fleetArr ex (.slice A0 nl c0) (.slice A1 2 c1) (.slice A2 nd c2) (.slice A3 nr c3) (.slice A4 np c4) (.slice A5 nv c5)) 33)
  have hg1 := heap_alloc_new w (.cells (fleetArr ex (.slice A0 nl c0) (.slice A1 2 c1) (.slice A2 nd c2) (.slice A3 nr c3) (.slice A4 np c4) (.slice A5 nv c5)) 33)
  have HK := hid (h.below hb1)
  have HN := hid (hn.below hb1)
  have HB := hid hb1
  have HG := hid hg1
  have HRL := hid hrl
  have HRE := hid hre
  have HRW := hid hrow
  have HLEN := hid hlen
  have HR := hid hr
  have hnr : nr ≤ 100 := h.fleet.sizes.2.2.2.1
  clear hb1 hg1 h hrl hre hlen hn hrow hr
  go_enter Try.func17, Try.ntmps17
  go_wp2_with fail
  generalize w.alloc (.cells (fleetArr ex (.slice A0 nl c0) (.slice A1 2 c1) (.slice A2 nd c2) (.slice A3 nr c3) (.slice A4 np c4) (.slice A5 nv c5)) 33) = w1 at *
  refine (usable_any HK.out HN.out HLEN.out HRL.out HRE.out r HR.out).mono ?_
  rintro e w2 ⟨b, rfl, hb2⟩
  have HW := hid hb2
  clear hb2
  cases b
  · go_wp2
    go_ret
    exact ⟨_, rfl, (fun e => by cases e), HB.out.trans (HW.out.mono HB.out.size)⟩
  have ⟨f0, f1, f2, f3, f4, f5, f6⟩ := held_fleet HG.out HW.out
  go_wp2_with fail
  clear f0 f1 f2 f3 f4 f5 f6
  go_loopw [16] (fun i wx => ∃ p : Nat, p ≤ nr ∧ i = .int .i64 p ∧ Hid (∀ d : Nat, d < p → FitsAll rows [(d : Int)] KM r) ∧ Hid (Below w1.heap.size w1 wx)) (fun i _ => (nr - intOf i).toNat)
  case atStart => exact ⟨0, Nat.zero_le _, rfl, hid (fun _ h => absurd h (Nat.not_lt_zero _)), HW⟩
  case round =>
    obtain ⟨p, hp, rfl, HF, HW2⟩ := hrel
    by_cases hpl : p < nr
    · have ⟨f0, f1, f2, f3, f4, f5, f6⟩ := held_fleet HG.out HW2.out
      have HBA := hid (HW2.out.alloc HW2.out.size (.cells #[.int .i64 (p : Int)] 3))
      have HL := hid (list_one (heap_alloc_new wr (.cells #[.int .i64 (p : Int)] 3)))
      go_wp2_with fail
      refine (fits_any (HK.out.vols.below HBA.out) (by first | exact HN.out.below HBA.out) HLEN.out HRW.out HL.out HR.out).mono ?_
      rintro e w3 ⟨b, rfl, hfit, hb3⟩
      have HFT := hid hfit
      have HW3 := hid (HBA.out.trans (hb3.mono HBA.out.size))
      clear hfit hb3 f0 f1 f2 f3 f4 f5 f6
      cases b
      · go_wp2
        go_ret
        exact ⟨_, rfl, (fun e => by cases e), HB.out.trans (HW3.out.mono HB.out.size)⟩
      · have HF3 := hid (show ∀ d : Nat, d < p + 1 → FitsAll rows [(d : Int)] KM r from fun d hd => by
          rcases Nat.lt_or_ge d p with h | h
          · exact HF.out d h
          · have : d = p := by omega
            subst this
            exact HFT.out rfl)
        go_wp2
        refine ⟨?_, ?_⟩
        · first
            | exact ⟨p + 1, by omega, by go_num, HF3, HW3⟩
           
        · (simp [intOf]; try omega)
    · obtain rfl : p = nr := by omega
      go_wp2
      go_ret
      exact ⟨_, rfl, (fun _ => HF.out), HB.out.trans (HW2.out.mono HB.out.size)⟩
end
end Go.Proofs.Ytpoaadjhaknhdaa
