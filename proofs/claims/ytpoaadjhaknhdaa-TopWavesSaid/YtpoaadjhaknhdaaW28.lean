/- topology: valid, fragments, shape, Shaped; rollout: usable, check. -/
import Derived.Test.YtpoaadjhaknhdaaW21
import Derived.Test.YtpoaadjhaknhdaaME
namespace Go.Proofs.Ytpoaadjhaknhdaa
open Go Go.RowKit Go.Sort Go.Deep

/-- A fleet with what is known of its volumes. -/
structure FleetK (w : World) (vl vm vd vr vp vv : Value) (nl nd nr np nv : Nat) (KM : List (Nat × Nat)) : Prop where
  fleet : FleetIn w vl vm vd vr vp vv nl nd nr np nv
  vols : VolsIn w vp vv KM
theorem FleetK.below {w w' : World} {vl vm vd vr vp vv : Value} {nl nd nr np nv : Nat} {KM : List (Nat × Nat)} (h : FleetK w vl vm vd vr vp vv nl nd nr np nv KM) (hb : Below w.heap.size w w') : FleetK w' vl vm vd vr vp vv nl nd nr np nv KM := ⟨h.fleet.below hb, h.vols.below hb⟩
section
variable {w : World} {ex : Int} {vl vm vd vr vp vv vn : Value} {nl nd nr np nv : Nat} {KM : List (Nat × Nat)} {rows : List (List Int)}
theorem FleetIn.slices (h : FleetIn w vl vm vd vr vp vv nl nd nr np nv) : ∃ A0 c0 A1 c1 A2 c2 A3 c3 A4 c4 A5 c5, vl = .slice A0 nl c0 ∧ vm = .slice A1 2 c1 ∧ vd = .slice A2 nd c2 ∧ vr = .slice A3 nr c3 ∧ vp = .slice A4 np c4 ∧ vv = .slice A5 nv c5 := by
  obtain ⟨A0, c0, e0, _⟩ := h.laws
  obtain ⟨A1, c1, e1, _⟩ := h.models
  obtain ⟨g, off, c2, e2, _⟩ := h.doms
  obtain ⟨A3, c3, e3, _⟩ := h.drives
  obtain ⟨A4, c4, e4, _⟩ := h.pols
  obtain ⟨A5, c5, e5, _⟩ := h.vols
  exact ⟨A0, c0, A1, c1, _, c2, A3, c3, A4, c4, A5, c5, e0, e1, e2, e3, e4, e5⟩
set_option maxRecDepth 100000 in
set_option maxHeartbeats 800000 in
theorem topvalid_any (h : FleetIn w vl vm vd vr vp vv nl nd nr np nv) : Calls Try.prog 43 #[.agg (fleetArr ex vl vm vd vr vp vv)] w (BoolPost w) := by
  obtain ⟨A0, c0, A1, c1, A2, c2, A3, c3, A4, c4, A5, c5, rfl, rfl, rfl, rfl, rfl, rfl⟩ := h.slices
  have hb1 := (Below.refl w.heap.size w).alloc (Nat.le_refl _) (.cells (fleetArr ex (.slice A0 nl c0) (.slice A1 2 c1) (.slice A2 nd c2) (.slice A3 nr c3) (.slice A4 np c4) (.slice A5 nv c5)) 33)
  have HF := hid (h.below hb1)
  have HB := hid hb1
  clear h hb1
  go_enter Try.func43, Try.ntmps43
  go_wp2_with fail
  refine (validate_any HF.out).mono ?_
  rintro e w2 ⟨k, rfl, hb2⟩
  have HB2 := hid (HB.out.trans (hb2.mono HB.out.size))
  clear hb2
  go_wp2
  go_ret
  exact ⟨_, rfl, HB2.out⟩
set_option maxRecDepth 100000 in
set_option maxHeartbeats 3200000 in
theorem frag_any (h : FleetK w vl vm vd vr vp vv nl nd nr np nv KM) (q : Nat) (hq : q < KM.length) : Calls Try.prog 57 #[.agg (fleetArr ex vl vm vd vr vp vv), .int .i64 (q : Int)] w fun e w' => e = .returned (.int .i64 ((KM[q].1 : Int) + (KM[q].2 : Int))) ∧ Below w.heap.size w w' := by
  have hb1 := (Below.refl w.heap.size w).alloc (Nat.le_refl _) (.cells (fleetArr ex vl vm vd vr vp vv) 33)
  have hg1 := heap_alloc_new w (.cells (fleetArr ex vl vm vd vr vp vv) 33)
  have hv := h.vols.below hb1
  have hf := h.fleet.below hb1
  obtain ⟨hsm, hln, gp, op, cp, np', gv, ov, cv, rfl, rfl, hgp, hgv, hnp, hvol⟩ := hv
  obtain ⟨pp, hpp, l1, l2, l3⟩ := hvol q hq
  obtain ⟨hk1, hk2, hk3⟩ := hsm KM[q] (List.getElem_mem hq)
  obtain ⟨A', c', e, _, hcm, hrows⟩ := hf.pols
  injection e with e1 e2 e3
  subst e2 e3
  obtain ⟨gp', op', e4, hgp', hrow⟩ := hrows (by omega)
  rw [← e1] at e4
  injection e4 with e4
  injection e4 with e5 e6 _
  subst e5 e6
  obtain ⟨nm, K, M, Q, s0, s1, s2, s3, s4, pm, pr, u1, v1, u2, v2, hcs, hpol⟩ := hrow pp hpp
  obtain ⟨npm, Apm, cpm, rfl, _⟩ := hpol.models
  obtain ⟨npr, Apr, cpr, rfl, _⟩ := hpol.repair
  obtain ⟨_, _, hx1, hx2, _⟩ := hpol.target
  obtain ⟨_, _, hx3, hx4, _⟩ := hpol.horizon
  obtain ⟨U1, k1, d1, rfl⟩ := hx1.sl
  obtain ⟨V1, k2, d2, rfl⟩ := hx2.sl
  obtain ⟨U2, k3, d3, rfl⟩ := hx3.sl
  obtain ⟨V2, k4, d4, rfl⟩ := hx4.sl
  have hK : K = (KM[q].1 : Int) := by
    have := (hcs 1 _ rfl).symm.trans l2
    simpa [polAgg] using this
  have hM : M = (KM[q].2 : Int) := by
    have := (hcs 2 _ rfl).symm.trans l3
    simpa [polAgg] using this
  generalize KM[q].1 = kq at *
  generalize KM[q].2 = mq at *
  subst hK hM
  have HB := hid hb1
  have hz1 : w.heap.size < (w.alloc (.cells (fleetArr ex vl vm vd vr (.slice (some ⟨gp, op, none⟩) np' cp) (.slice (some ⟨gv, ov, none⟩) KM.length cv)) 33)).heap.size := by simp
  have g5 := cell_block hg1 5
  have g6 := cell_block hg1 6
  simp only [fleetArr, List.getElem?_toArray, List.getElem?_cons_zero, List.getElem?_cons_succ] at g5 g6
  have y0 := hcs 0 (.string nm) rfl
  rw [Nat.add_zero] at y0
  have y1 := hcs 1 (.int .i64 (kq : Int)) rfl
  have y2 := hcs 2 (.int .i64 (mq : Int)) rfl
  have y3 := hcs 3 (.int .i64 Q) rfl
  have y4 := hcs 4 (.int .i64 s0) rfl
  have y5 := hcs 5 (.int .i64 s1) rfl
  have y6 := hcs 6 (.int .i64 s2) rfl
  have y7 := hcs 7 (.int .i64 s3) rfl
  have y8 := hcs 8 (.int .i64 s4) rfl
  have y9 := hcs 9 (.slice Apm npm cpm) rfl
  have y10 := hcs 10 (.slice Apr npr cpr) rfl
  have y11 := hcs 11 (.bool false) rfl
  have y12 := hcs 12 (.slice U1 k1 d1) rfl
  have y13 := hcs 13 (.slice V1 k2 d2) rfl
  have y14 := hcs 14 (.bool false) rfl
  have y15 := hcs 15 (.slice U2 k3 d3) rfl
  have y16 := hcs 16 (.slice V2 k4 d4) rfl
  have i1 : (q : Int) < (KM.length : Int) := by omega
  have i2 : (pp : Int) < (np' : Int) := by omega
  have i3 : (0 : Int) ≤ (pp : Int) := by omega
  have i4 := wrap_small ((kq : Int) + (mq : Int)) (by omega) (by omega)
  unfold maxLen at hnp
  clear hcs hpol hx1 hx2 hx3 hx4 hrow hrows hvol hsm l2 l3 h hf e1 hb1 hg1
  go_enter Try.func57, Try.ntmps57
  go_upto_region 1 with fail
  generalize w.alloc (.cells (fleetArr ex vl vm vd vr (.slice (some ⟨gp, op, none⟩) np' cp) (.slice (some ⟨gv, ov, none⟩) KM.length cv)) 33) = w1 at *
  have HS := hid (show ∀ w', Below w1.heap.size w1 w' → w'.cell? ⟨w.heap.size, 5, none⟩ = some (.slice (some ⟨gp, op, none⟩) np' cp) ∧ w'.cell? ⟨w.heap.size, 6, none⟩ = some (.slice (some ⟨gv, ov, none⟩) KM.length cv) ∧ w'.cell? ⟨gv, ov + q * 2 + 1, none⟩ = some (.int .i64 (pp : Int)) ∧ w'.cell? ⟨gp, op + pp * 17, none⟩ = some (.string nm) ∧ w'.cell? ⟨gp, op + pp * 17 + 1, none⟩ = some (.int .i64 (kq : Int)) ∧ w'.cell? ⟨gp, op + pp * 17 + 2, none⟩ = some (.int .i64 (mq : Int)) ∧ w'.cell? ⟨gp, op + pp * 17 + 3, none⟩ = some (.int .i64 Q) ∧ w'.cell? ⟨gp, op + pp * 17 + 4, none⟩ = some (.int .i64 s0) ∧ w'.cell? ⟨gp, op + pp * 17 + 5, none⟩ = some (.int .i64 s1) ∧ w'.cell? ⟨gp, op + pp * 17 + 6, none⟩ = some (.int .i64 s2) ∧ w'.cell? ⟨gp, op + pp * 17 + 7, none⟩ = some (.int .i64 s3) ∧ w'.cell? ⟨gp, op + pp * 17 + 8, none⟩ = some (.int .i64 s4) ∧ w'.cell? ⟨gp, op + pp * 17 + 9, none⟩ = some (.slice Apm npm cpm) ∧ w'.cell? ⟨gp, op + pp * 17 + 10, none⟩ = some (.slice Apr npr cpr) ∧ w'.cell? ⟨gp, op + pp * 17 + 11, none⟩ = some (.bool false) ∧ w'.cell? ⟨gp, op + pp * 17 + 12, none⟩ = some (.slice U1 k1 d1) ∧ w'.cell? ⟨gp, op + pp * 17 + 13, none⟩ = some (.slice V1 k2 d2) ∧ w'.cell? ⟨gp, op + pp * 17 + 14, none⟩ = some (.bool false) ∧ w'.cell? ⟨gp, op + pp * 17 + 15, none⟩ = some (.slice U2 k3 d3) ∧ w'.cell? ⟨gp, op + pp * 17 + 16, none⟩ = some (.slice V2 k4 d4) from fun w' hW => ⟨(hW.cell (p := ⟨w.heap.size, 5, none⟩) hz1).trans g5, (hW.cell (p := ⟨w.heap.size, 6, none⟩) hz1).trans g6, (hW.cell (p := ⟨gv, ov + q * 2 + 1, none⟩) hgv).trans l1, (hW.cell (p := ⟨gp, op + pp * 17, none⟩) hgp).trans y0, (hW.cell (p := ⟨gp, op + pp * 17 + 1, none⟩) hgp).trans y1, (hW.cell (p := ⟨gp, op + pp * 17 + 2, none⟩) hgp).trans y2, (hW.cell (p := ⟨gp, op + pp * 17 + 3, none⟩) hgp).trans y3, (hW.cell (p := ⟨gp, op + pp * 17 + 4, none⟩) hgp).trans y4, (hW.cell (p := ⟨gp, op + pp * 17 + 5, none⟩) hgp).trans y5, (hW.cell (p := ⟨gp, op + pp * 17 + 6, none⟩) hgp).trans y6, (hW.cell (p := ⟨gp, op + pp * 17 + 7, none⟩) hgp).trans y7, (hW.cell (p := ⟨gp, op + pp * 17 + 8, none⟩) hgp).trans y8, (hW.cell (p := ⟨gp, op + pp * 17 + 9, none⟩) hgp).trans y9, (hW.cell (p := ⟨gp, op + pp * 17 + 10, none⟩) hgp).trans y10, (hW.cell (p := ⟨gp, op + pp * 17 + 11, none⟩) hgp).trans y11, (hW.cell (p := ⟨gp, op + pp * 17 + 12, none⟩) hgp).trans y12, (hW.cell (p := ⟨gp, op + pp * 17 + 13, none⟩) hgp).trans y13, (hW.cell (p := ⟨gp, op + pp * 17 + 14, none⟩) hgp).trans y14, (hW.cell (p := ⟨gp, op + pp * 17 + 15, none⟩) hgp).trans y15, (hW.cell (p := ⟨gp, op + pp * 17 + 16, none⟩) hgp).trans y16⟩)
  clear g5 g6 l1 y0 y1 y2 y3 y4 y5 y6 y7 y8 y9 y10 y11 y12 y13 y14 y15 y16
  go_region_held3 (fun w' => w'.cell? ⟨w.heap.size, 5, none⟩ = some (.slice (some ⟨gp, op, none⟩) np' cp) ∧ w'.cell? ⟨w.heap.size, 6, none⟩ = some (.slice (some ⟨gv, ov, none⟩) KM.length cv) ∧ w'.cell? ⟨gv, ov + q * 2 + 1, none⟩ = some (.int .i64 (pp : Int)) ∧ w'.cell? ⟨gp, op + pp * 17, none⟩ = some (.string nm) ∧ w'.cell? ⟨gp, op + pp * 17 + 1, none⟩ = some (.int .i64 (kq : Int)) ∧ w'.cell? ⟨gp, op + pp * 17 + 2, none⟩ = some (.int .i64 (mq : Int)) ∧ w'.cell? ⟨gp, op + pp * 17 + 3, none⟩ = some (.int .i64 Q) ∧ w'.cell? ⟨gp, op + pp * 17 + 4, none⟩ = some (.int .i64 s0) ∧ w'.cell? ⟨gp, op + pp * 17 + 5, none⟩ = some (.int .i64 s1) ∧ w'.cell? ⟨gp, op + pp * 17 + 6, none⟩ = some (.int .i64 s2) ∧ w'.cell? ⟨gp, op + pp * 17 + 7, none⟩ = some (.int .i64 s3) ∧ w'.cell? ⟨gp, op + pp * 17 + 8, none⟩ = some (.int .i64 s4) ∧ w'.cell? ⟨gp, op + pp * 17 + 9, none⟩ = some (.slice Apm npm cpm) ∧ w'.cell? ⟨gp, op + pp * 17 + 10, none⟩ = some (.slice Apr npr cpr) ∧ w'.cell? ⟨gp, op + pp * 17 + 11, none⟩ = some (.bool false) ∧ w'.cell? ⟨gp, op + pp * 17 + 12, none⟩ = some (.slice U1 k1 d1) ∧ w'.cell? ⟨gp, op + pp * 17 + 13, none⟩ = some (.slice V1 k2 d2) ∧ w'.cell? ⟨gp, op + pp * 17 + 14, none⟩ = some (.bool false) ∧ w'.cell? ⟨gp, op + pp * 17 + 15, none⟩ = some (.slice U2 k3 d3) ∧ w'.cell? ⟨gp, op + pp * 17 + 16, none⟩ = some (.slice V2 k4 d4))
    (first | (with_reducible exact HS.out _ (Below.refl _ _).drew) | (with_reducible exact HS.out _ ((Below.refl _ _).drew.alloc (Nat.le_refl _) _)) | (with_reducible exact HS.out _ (((Below.refl _ _).alloc (Nat.le_refl _) _).drew)))
    (fail)
  all_goals
    clear HS
    go_wp2_with fail
    go_ret
    first | exact ⟨rfl, (HB.out.alloc (Nat.le_of_lt hz1) _).drew⟩ | exact ⟨rfl, HB.out.drew.alloc (Nat.le_of_lt hz1) _⟩
end
end Go.Proofs.Ytpoaadjhaknhdaa
