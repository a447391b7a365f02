/- validPolicy. -/
import Derived.Test.YtpoaadjhaknhdaaW15
namespace Go.Proofs.Ytpoaadjhaknhdaa
open Go Go.RowKit Go.Sort Go.Deep

theorem Try.info_bool : (Try.prog.info? 4).map (fun i => (i.zero, i.size, i.bytes)) = some (some (.bool false), 1, 1) := by kernel_rfl
set_option maxRecDepth 100000 in
theorem make_bools (n : Nat) (hn : n ≤ 1000) (w : World) : (Instr.makeSlice 121 (.int .i64 n) (.int .i64 n)).run Try.prog w = .ok (.slice (some ⟨w.heap.size, 0, none⟩) n n) (w.alloc (.cells (List.replicate n (Value.bool false)).toArray 4)) := by
  obtain ⟨i, hi, hz, hs, hby⟩ := info_parts Try.info_bool
  have hrun := run_make (P := Try.prog) w 121 4 i (.bool false) Try.underlying121 hi hz .i64 .i64 n n (by omega) (Int.le_refl _) (by rw [hby]; omega) (by omega)
  rw [Int.toNat_natCast, hs, Nat.mul_one] at hrun
  rw [hrun]
  congr 4
  apply Array.ext_getElem?
  intro j
  unfold madeCells
  by_cases h : j < n
  · simp [h, Nat.mod_one, Value.cells]
  · simp [h]
theorem bools_1 (w : World) : (Instr.makeSlice 121 (.int .i64 1) (.int .i64 1)).run Try.prog w = .ok (.slice (some ⟨w.heap.size, 0, none⟩) 1 1) (w.alloc (.cells #[.bool false] 4)) := make_bools 1 (by omega) w
theorem bools_2 (w : World) : (Instr.makeSlice 121 (.int .i64 2) (.int .i64 2)).run Try.prog w = .ok (.slice (some ⟨w.heap.size, 0, none⟩) 2 2) (w.alloc (.cells #[.bool false, .bool false] 4)) := make_bools 2 (by omega) w
/-- A policy. -/
structure PolOk (w : World) (K M Q s0 s1 s2 s3 s4 : Int) (vm vr u1 v1 u2 v2 : Value) : Prop where
  k : 1 ≤ K ∧ K ≤ 2
  m : 0 ≤ M ∧ M ≤ 2
  models : ∃ n, NumsAt w vm n
  repair : ∃ n, FrsAt w vr n
  target : ∃ a b, One w u1 a ∧ One w v1 b ∧ 0 < b
  horizon : ∃ a b, One w u2 a ∧ One w v2 b ∧ 0 < b
theorem PolOk.below {w w' : World} {K M Q s0 s1 s2 s3 s4 : Int} {vm vr u1 v1 u2 v2 : Value} (h : PolOk w K M Q s0 s1 s2 s3 s4 vm vr u1 v1 u2 v2) (hb : Below w.heap.size w w') : PolOk w' K M Q s0 s1 s2 s3 s4 vm vr u1 v1 u2 v2 := by
  obtain ⟨h1, h2, ⟨n1, h3⟩, ⟨n2, h4⟩, ⟨a1, b1, h5, h6, h7⟩, ⟨a2, b2, h8, h9, h10⟩⟩ := h
  exact ⟨h1, h2, ⟨n1, h3.below hb⟩, ⟨n2, h4.below hb⟩, ⟨a1, b1, h5.below hb, h6.below hb, h7⟩, ⟨a2, b2, h8.below hb, h9.below hb, h10⟩⟩
abbrev polAgg (nm : ByteArray) (K M Q s0 s1 s2 s3 s4 : Int) (vm vr u1 v1 u2 v2 : Value) : Array Value := #[.string nm, .int .i64 K, .int .i64 M, .int .i64 Q, .int .i64 s0, .int .i64 s1, .int .i64 s2, .int .i64 s3, .int .i64 s4, vm, vr, .bool false, u1, v1, .bool false, u2, v2]
set_option maxRecDepth 100000 in
set_option maxHeartbeats 3200000 in
theorem policy_any {w : World} {nm : ByteArray} {K M Q s0 s1 s2 s3 s4 : Int} {vm vr u1 v1 u2 v2 : Value} (h : PolOk w K M Q s0 s1 s2 s3 s4 vm vr u1 v1 u2 v2) :
    Calls Try.prog 41 #[.agg (polAgg nm K M Q s0 s1 s2 s3 s4 vm vr u1 v1 u2 v2), .int .i64 2] w (BoolPost w) := by
  have hb1 := (Below.refl w.heap.size w).alloc (Nat.le_refl _) (.cells (polAgg nm K M Q s0 s1 s2 s3 s4 vm vr u1 v1 u2 v2) 50)
  have hg1 := heap_alloc_new w (.cells (polAgg nm K M Q s0 s1 s2 s3 s4 vm vr u1 v1 u2 v2) 50)
  obtain ⟨hK, hM, ⟨nmo, hmo⟩, ⟨nr, hr⟩, ⟨a1, b1, x1, y1, p1⟩, ⟨a2, b2, x2, y2, p2⟩⟩ := h.below hb1
  obtain ⟨Am, cm, rfl, hmc, hmm, hmn⟩ := id hmo
  obtain ⟨Ar, cr, rfl, hrc, hrm, _⟩ := id hr
  obtain ⟨U1, m1, c1, rfl⟩ := x1.sl
  obtain ⟨V1, m2, c2, rfl⟩ := y1.sl
  obtain ⟨U2, m3, c3, rfl⟩ := x2.sl
  obtain ⟨V2, m4, c4, rfl⟩ := y2.sl
  have HMN := hid hmn
  have HR := hid hr
  have X1 := hid x1
  have Y1 := hid y1
  have X2 := hid x2
  have Y2 := hid y2
  have HB := hid hb1
  have HG := hid hg1
  obtain ⟨hK1, hK2⟩ := hK
  obtain ⟨hM1, hM2⟩ := hM
  unfold maxLen at hmm hrm
  clear x1 y1 x2 y2 hb1 hr hmo hmn h hg1
  go_enter Try.func41, Try.ntmps41
  go_wp2_with fail
  generalize w.alloc (.cells (polAgg nm K M Q s0 s1 s2 s3 s4 (.slice Am nmo cm) (.slice Ar nr cr) (.slice U1 m1 c1) (.slice V1 m2 c2) (.slice U2 m3 c3) (.slice V2 m4 c4)) 50) = w1 at *
  refine (numbers_any ⟨by omega, by omega⟩ ⟨by omega, by omega⟩ w1).mono ?_
  rintro e w2 ⟨bb, rfl, hb2⟩
  have HW2 := hid (HB.out.trans (hb2.mono HB.out.size))
  cases bb
  · go_wp2
    go_ret
    exact ⟨_, rfl, HW2.out⟩
  have hgg := (hb2.block _ (Array.getElem?_eq_some_iff.1 HG.out).1).trans HG.out
  have pp2 := cell_block hgg 2
  have pp9 := cell_block hgg 9
  have pp10 := cell_block hgg 10
  have pp11 := cell_block hgg 11
  have pp12 := cell_block hgg 12
  have pp13 := cell_block hgg 13
  have pp14 := cell_block hgg 14
  have pp15 := cell_block hgg 15
  have pp16 := cell_block hgg 16
  simp only [polAgg, List.getElem?_toArray, List.getElem?_cons_zero, List.getElem?_cons_succ] at pp2 pp9 pp10 pp11 pp12 pp13 pp14 pp15 pp16
  have HB2 := hid hb2
  have HGG := hid hgg
  clear hb2 hgg HG
  by_cases hm0 : nmo = 0
  · subst hm0
    go_wp2
    go_ret
    exact ⟨_, rfl, HW2.out⟩
  have hm1 : ((nmo : Int) == 0) = false := by rw [beq_eq_false_iff_ne]; omega
  go_wp2_with fail
  refine (ratesok_any (HR.out.below HB2.out) (X1.out.below HB2.out) (Y1.out.below HB2.out) p1 (X2.out.below HB2.out) (Y2.out.below HB2.out) p2).mono ?_
  rintro e w3 ⟨bb, rfl, hb3⟩
  have HW3 := hid (HW2.out.trans (hb3.mono HW2.out.size))
  cases bb
  · go_wp2
    go_ret
    exact ⟨_, rfl, HW3.out⟩
  have hgg := (hb3.block _ (Array.getElem?_eq_some_iff.1 HGG.out).1).trans HGG.out
  have HB3 := hid (HB2.out.trans (hb3.mono HB2.out.size))
  have hb4 := (Below.refl w3.heap.size w3).alloc (Nat.le_refl _) (.cells #[.bool false, .bool false] 4)
  have hg4 := (hb4.block _ (Array.getElem?_eq_some_iff.1 hgg).1).trans hgg
  have r9 := cell_block hg4 9
  simp only [polAgg, List.getElem?_toArray, List.getElem?_cons_zero, List.getElem?_cons_succ] at r9
  have HV4 := hid (vals_new w3 [.bool false, .bool false] 4)
  have HB4 := hid (HB3.out.trans (hb4.mono HB3.out.size))
  have HW4 := hid (HW3.out.trans (hb4.mono HW3.out.size))
  have HQ := hid HW3.out.size
  have HR3 := hid HB3.out.size
  have HB4' := hid hb4
  have k2 := bools_2
  clear hb3 hgg pp2 pp9 pp10 pp11 pp12 pp13 pp14 pp15 pp16 hb4 hg4 HGG
  go_wp2_with fail
  generalize w3.alloc (.cells #[.bool false, .bool false] 4) = w4 at *
  have HX4 := HB4'
  generalize w3.heap.size = r at *
  go_loopw [41] (fun i wr => ∃ (k : Nat) (d0 d1 : Bool), k ≤ nmo ∧ i = .int .i64 k ∧ Hid (ValsAt wr r [.bool d0, .bool d1]) ∧ Hid (Below r w3 wr)) (fun i _ => (nmo - intOf i).toNat)
  case atStart => exact ⟨0, false, false, Nat.zero_le _, rfl, HV4, HX4⟩
  case round =>
    obtain ⟨k, d0, d1, hk, rfl, HV, HX⟩ := hrel
    by_cases hlt : k < nmo
    · obtain ⟨g, off, rfl, hg, hfr⟩ := HMN.out (by omega)
      obtain ⟨x, hx⟩ := hfr k hlt
      have z0 := ((HB3.out.trans (HX.out.mono HR3.out)).cell (p := ⟨g, off + k, none⟩) hg).trans hx
      have e0 := HV.out.cell 0 (by simp)
      have e1 := HV.out.cell 1 (by simp)
      have f0 := HV.out.free 0 (by simp)
      have f1 := HV.out.free 1 (by simp)
      simp only [List.getElem_cons_zero, List.getElem_cons_succ] at e0 e1
      clear hfr hx
      by_cases hx0 : x = 0
      · subst hx0
        go_wp2_with fail
        refine (in_any 0 0 1 wr).mono ?_
        rintro e w5 ⟨rfl, rfl⟩
        rw [show decide ((0 : Int) ≤ 0 ∧ (0 : Int) ≤ 1) = true by decide]
        cases d0
        · go_wp2
          go_roundw
          case rel => exact ⟨k + 1, true, d1, by omega, by go_num, hid (HV.out.store 0 (.bool true) (by simp)), hid (HX.out.setCell (Nat.le_refl _) _)⟩
          case measure => (simp [intOf]; try omega)
        · go_wp2
          go_ret
          exact ⟨_, rfl, HW3.out.trans (HX.out.mono HQ.out)⟩
      · by_cases hx1 : x = 1
        · subst hx1
          go_wp2_with fail
          refine (in_any 1 0 1 wr).mono ?_
          rintro e w5 ⟨rfl, rfl⟩
          rw [show decide ((0 : Int) ≤ 1 ∧ (1 : Int) ≤ 1) = true by decide]
          cases d1
          · go_wp2
            go_roundw
            case rel => exact ⟨k + 1, d0, true, by omega, by go_num, hid (HV.out.store 1 (.bool true) (by simp)), hid (HX.out.setCell (Nat.le_refl _) _)⟩
            case measure => (simp [intOf]; try omega)
          · go_wp2
            go_ret
            exact ⟨_, rfl, HW3.out.trans (HX.out.mono HQ.out)⟩
        · go_wp2_with fail
          refine (in_any x 0 1 wr).mono ?_
          rintro e w5 ⟨rfl, rfl⟩
          rw [show decide ((0 : Int) ≤ x ∧ x ≤ 1) = false by simp; omega]
          go_wp2
          go_ret
          exact ⟨_, rfl, HW3.out.trans (HX.out.mono HQ.out)⟩
    · obtain rfl : k = nmo := by omega
      go_wp2
      go_ret
      exact ⟨_, rfl, HW3.out.trans (HX.out.mono HQ.out)⟩
end Go.Proofs.Ytpoaadjhaknhdaa
