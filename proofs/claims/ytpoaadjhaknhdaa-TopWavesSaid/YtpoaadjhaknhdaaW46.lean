/- The law TopWaves. -/
import Derived.Test.YtpoaadjhaknhdaaW40
import Derived.Test.YtpoaadjhaknhdaaW43
import Derived.Test.YtpoaadjhaknhdaaW45
import Derived.Test.YtpoaadjhaknhdaaDBase
namespace Go.Proofs.Ytpoaadjhaknhdaa
open Go Go.RowKit Go.Sort Go.Deep

set_option maxRecDepth 100000 in
set_option maxHeartbeats 80000000 in
theorem law_waves {w : World} {vl : Value} {l : List Int} (hl : IntsAt w vl l) (rv : Int) : Calls Try.prog 3 #[vl, .int .i64 rv] w fun e w' => e = .returned (.bool true) ∧ Below w.heap.size w w' := by
  obtain ⟨_, _, Al, cl, rfl, hl3⟩ := hl
  have hb1 := (Below.refl w.heap.size w).alloc (Nat.le_refl _) (.cells #[.slice Al l.length cl, .int .i64 0] 25)
  have hg1 := heap_alloc_new w (.cells #[.slice Al l.length cl, .int .i64 0] 25)
  have HT := hid (show TapeAt (w.alloc (.cells #[.slice Al l.length cl, .int .i64 0] 25)) w.heap.size 0 from ⟨Al, l.length, cl, l, hg1, rfl, fun h0 => by
    obtain ⟨b, off, e, hb, hc⟩ := hl3 h0
    exact ⟨b, off, e, hb, fun j hj => (hb1.cell (p := ⟨b, off + j, none⟩) hb).trans (IntsAt.cell hc j hj)⟩⟩)
  have HB1 := hid hb1
  clear hb1 hg1 hl3
  go_enter Try.func3, Try.ntmps3
  go_wp2_with fail
  generalize w.alloc (.cells #[.slice Al l.length cl, .int .i64 0] 25) = w1 at *
  refine (fleet_any HT.out).mono ?_
  rintro e w2 ⟨ex, va, vm, vd, vr, vp, vv, nd, nr, np, KM, I, rfl, hK, ht, hI, hn1, hn9, hk1, hk3, hx1, hx2, hb2⟩
  obtain ⟨exn, rfl⟩ : ∃ n : Nat, ex = (n : Int) := ⟨ex.toNat, by omega⟩
  have hsl := hK.now.fleet.slices
  obtain ⟨A0, c0, A1, c1, A2, c2, A3, c3, A4, c4, A5, c5, rfl, rfl, rfl, rfl, rfl, rfl⟩ := hsl
  have hb3 := (Below.refl w2.heap.size w2).alloc (Nat.le_refl _) (.cells (fleetArr (exn : Int) (.slice A0 1 c0) (.slice A1 2 c1) (.slice A2 nd c2) (.slice A3 nr c3) (.slice A4 np c4) (.slice A5 KM.length c5)) 33)
  have HG3 := hid (heap_alloc_new w2 (.cells (fleetArr (exn : Int) (.slice A0 1 c0) (.slice A1 2 c1) (.slice A2 nd c2) (.slice A3 nr c3) (.slice A4 np c4) (.slice A5 KM.length c5)) 33))
  have HK3 := hid (hK.below hb3)
  have HT3 := hid (ht.below hb3)
  have hgt := ht.lt
  have HB3 := hid ((HB1.out.trans hb2).trans (hb3.mono (Nat.le_of_lt hgt)))
  clear hK ht hb2 hb3 HT HB1
  go_wp2_with fail
  generalize w2.alloc (.cells (fleetArr (exn : Int) (.slice A0 1 c0) (.slice A1 2 c1) (.slice A2 nd c2) (.slice A3 nr c3) (.slice A4 np c4) (.slice A5 KM.length c5)) 33) = w3 at *
  refine (layout_any HT3.out (by omega) HK3.out hn1 hk3).mono ?_
  rintro e w4 ⟨vn, rows, rfl, hrows, hlen, hrl, hre, hfr⟩
  have HK4 := hid (HK3.out w4 hfr)
  have HN4 := hid hrows
  have HG4 := hid ((hfr.block _ (Array.getElem?_eq_some_iff.1 HG3.out).1 (fun e => by have : w2.heap.size = w.heap.size := e; omega)).trans HG3.out)
  have HB4 := hid (below_of_fr HB3.out hfr (fun k e => by rw [show k = w.heap.size from e]; exact Nat.le_refl _) HB3.out.size)
  have HLEN := hid hlen
  have HRL := hid hrl
  have HRE := hid hre
  have HRW := hid (show ∀ q (h : q < rows.length), rows[q].length ≤ 4 from fun q h => by
    have h2 : q < KM.length := by omega
    have := HK4.out.vols.small _ (List.getElem_mem h2)
    rw [hrl q h h2]; omega)
  have hgb := (Array.getElem?_eq_some_iff.1 HG3.out).1
  clear hrows hrl hre hfr HK3 HT3 HG3 HB3
  have ⟨f0, f1, f2, f3, f4, f5, f6⟩ := held_fleet HG4.out (Below.refl _ _)
  generalize w2.heap.size = gb at *
  go_wp2_with fail
  refine (within_any rv 2 w4 (by omega) (by omega)).mono ?_
  rintro e w5 ⟨rfl, rfl⟩
  obtain ⟨rr, hrr⟩ : ∃ x, rv % 2 = x := ⟨_, rfl⟩
  have hrb : 0 ≤ rr ∧ rr ≤ 1 := by omega
  rw [hrr]
  clear hrr
  go_wp2_with fail
  refine (waves_any HK4.out HN4.out HLEN.out HRL.out HRE.out (fun x hx => by
    obtain ⟨j, hj, rfl⟩ := List.getElem_of_mem hx
    have := HRW.out j hj
    omega) rr (by omega)).mono ?_
  rintro e w6 ⟨vw, L, k, rfl, hb6, ⟨go, gs, hw⟩, hLl, hfit⟩
  have HB6 := hid (HB4.out.trans (hb6.mono HB4.out.size))
  by_cases hk0 : k = 0
  case neg =>
    have hk : (k == 0) = false := by rw [beq_eq_false_iff_ne]; exact hk0
    clear hk0 hb6 hw hLl hfit
    go_wp2_with fail
    refine (runsum_any _).mono ?_
    rintro e w7 ⟨rfl, rfl⟩
    go_wp2
    go_ret
    exact ⟨rfl, HB6.out⟩
  subst hk0
  have HK := hid (HK4.out.below hb6)
  have HN := hid (HN4.out.below hb6)
  have HW := hid hw.rows
  have HG := hid ((hb6.block _ (Array.getElem?_eq_some_iff.1 HG4.out).1).trans HG4.out)
  have HFIT := hid (fun l hl => (hfit l hl).2)
  clear hb6 hw hfit HK4 HN4 HG4 HB4 f0 f1 f2 f3 f4 f5 f6 hgb hgt HRE
  obtain ⟨hsm, hln, gp, op, cp, np', gv, ov, cv, e1, e2, hgp, hgv, hnp, hvol⟩ := HK.out.vols
  injection e1 with e1a e1b e1c
  injection e2 with e2a e2b e2c
  subst e1a e1b e1c e2a e2c
  have HSM := hid hsm
  have HVOL := hid hvol
  obtain ⟨An, cn, rfl, hnc, hnm, _⟩ := id HN.out
  obtain ⟨Aw, cw, rfl, hwc, hwm, _⟩ := id HW.out
  obtain ⟨nv, hnv⟩ : ∃ n, KM.length = n := ⟨_, rfl⟩
  obtain ⟨nL, hnL⟩ : ∃ n, L.length = n := ⟨_, rfl⟩
  have HNV := hid hnv
  have HNL := hid hnL
  have hnrows : rows.length = nv := hlen.trans hnv
  have HNR := hid hnrows
  rw [hnv] at HK HG hk1 hk3
  rw [hnrows] at hnc ⊢
  rw [hnL] at hwc hLl ⊢
  rw [hnv]
  unfold maxLen at hnm hwm hnp
  obtain ⟨i0, hi0, hz0, hz1, hz2⟩ := info_parts Try.info_copy
  clear hsm hvol hnv hnL hnrows hlen hln e2b
  as_aux_lemma => -- T1
    go_wp2_with fail
    go_loopw [10] (fun i wx => ∃ q : Nat, q ≤ nv ∧ i = .int .i64 (q : Nat) ∧ Hid (Below w6.heap.size w6 wx)) (fun i _ => (nv - intOf i).toNat)
    case atStart => exact ⟨0, Nat.zero_le _, rfl, hid (Below.refl _ _)⟩
    case round =>
      obtain ⟨q, hq, rfl, HB⟩ := hrel
      by_cases hqv : q < nv
      · as_aux_lemma => -- T2
          have hqk : q < KM.length := by rw [HNV.out]; exact hqv
          have hqr : q < rows.length := by rw [HNR.out]; exact hqv
          obtain ⟨p, hp, l1, l2, _⟩ := HVOL.out q hqk
          have hks := HSM.out _ (List.getElem_mem hqk)
          have hrl4 := HRW.out q hqr
          have hFT : ∀ l ∈ L, hitOf rows[q] l = true → (KM[q].1 : Int) + rr ≤ (othOf rows[q] l : Int) := fun l hl hh => by
            have h2 := HFIT.out l hl q hqr hh
            rwa [List.getD_eq_getElem?_getD, List.getElem?_eq_getElem hqk] at h2
          obtain ⟨gn, on, cn', e, hgn, u, hu, hul⟩ := HN.out.get q hqr
          injection e with ea eb ec
          subst ea
          obtain ⟨kq, hkq⟩ : ∃ k, KM[q].1 = k := ⟨_, rfl⟩
          obtain ⟨row, hrow⟩ : ∃ r, rows[q] = r := ⟨_, rfl⟩
          rw [hkq] at l2 hks hFT
          rw [hrow] at hul hrl4 hFT
          have HFT := hid hFT
          obtain ⟨Au, cu, rfl, huc, hum, hus⟩ := hul
          obtain ⟨nR, hnR⟩ : ∃ n, row.length = n := ⟨_, rfl⟩
          rw [hnR] at hu huc hrl4
          have HNRW := hid hnR
          have HUS := hid hus
          have HU := hid hu
          have hk12 : 1 ≤ kq ∧ kq ≤ 2 := ⟨hks.1, hks.2.1⟩
          have hgw := (HB.out.block _ (Array.getElem?_eq_some_iff.1 HG.out).1).trans HG.out
          have q5 : ∀ n, (wr.drewN n).cell? ⟨gb, 5, none⟩ = some (.slice (some ⟨gp, op, none⟩) np c4) := fun _ => cell_block hgw 5
          have q6 : ∀ n, (wr.drewN n).cell? ⟨gb, 6, none⟩ = some (.slice (some ⟨gv, ov, none⟩) nv c5) := fun _ => cell_block hgw 6
          have q7 : ∀ n, (wr.drewN n).cell? ⟨gv, ov + q * 2 + 1, none⟩ = some (.int .i64 (p : Int)) := fun _ => (HB.out.cell (p := ⟨gv, ov + q * 2 + 1, none⟩) hgv).trans l1
          have q8 : ∀ n, (wr.drewN n).cell? ⟨gp, op + p * 17 + 1, none⟩ = some (.int .i64 (kq : Int)) := fun _ => (HB.out.cell (p := ⟨gp, op + p * 17 + 1, none⟩) hgp).trans l2
          have i1 : (q : Int) < (nv : Int) := by omega
          have i2 : (p : Int) < (np : Int) := by omega
          have i3 : (0 : Int) ≤ (p : Int) := by omega
          unfold maxLen at hum
          clear hgw l1 l2 hFT hus hu hnR eb ec HVOL HSM HRL HRW HFIT
          go_upto_region 11 with fail
          go_quiet (fail)
          rename_i nq
          have HBs := hid (HB.out.trans ((below_drew wr nq).mono HB.out.size))
          clear q5 q6 q7 q8 i2 i3
          generalize wr.drewN nq = ws at *
          go_wp2_with fail
          go_loopw [12, 13] (fun m i wx => ∃ a : Nat, a ≤ nR ∧ i = .int .i64 (a : Nat) ∧ Hid (∃ o, OwnSl wx o 3 m (cops row a).length ((cops row a).flatMap cpCells) ∧ Above w6.heap.size o) ∧ Hid (Below w6.heap.size w6 wx)) (fun _ i _ => (nR - intOf i).toNat)
          case atStart => exact ⟨0, Nat.zero_le _, rfl, hid ⟨NoOwn, OwnSl.nil _ _ _, fun _ e => e.elim⟩, HBs⟩
          case round =>
            clear HBs HB
            obtain ⟨a, ha, rfl, HO, HB⟩ := hrel
            have zn := (HB.out.cell (p := ⟨gn, on + q, none⟩) hgn).trans HU.out
            by_cases hal : a < nR
            · as_aux_lemma => -- T3
                have har : a < row.length := by rw [HNRW.out]; exact hal
                obtain ⟨gu, ou, rfl, hgu, huc2⟩ := HUS.out (by omega)
                have zc := (HB.out.cell (p := ⟨gu, ou + a, none⟩) hgu).trans (huc2 a har)
                have HT := hid (cops_succ row a har)
                have hPl := cops_len row a
                generalize row[a] = d at *
                generalize cops row a = P at *
                obtain ⟨o, ho, hoa⟩ := HO.out
                obtain ⟨Ao, co, rfl, hco⟩ := ho.form
                have HOO := hid ho
                have HOA := hid hoa
                have HBS := hid HB.out.size
                clear ho hoa HO huc2 har
                by_cases hd : 0 ≤ d
                · have HT2 := HT.out
                  rw [if_pos hd] at HT2
                  have HT3 := hid HT2
                  have HBX := hid ((Below.refl wr.heap.size wr).alloc (Nat.le_refl _) (.cells (cpCells (a, d)).toArray 55))
                  clear HT2 HT
                  go_upto_region 17 with fail
                  go_wp2_with (at_builtin; refine wpList_append_sl (by rfl) (.tmp 75) (.tmp 85) 53 (by rfl) 55 i0 _ 3 24 Try.underlying53 hi0 hz0 hz1 hz2 rfl (by decide) o _ (.slice (some ⟨wr.heap.size, 0, none⟩) 1 1) P.length 1 (P.flatMap cpCells) (cpCells (a, d)) (by rfl) (by rfl) (HOO.out.below HBX.out) ⟨rfl, .inr ⟨_, 1, rfl, World.news_of_block (cs := (cpCells (a, d)).toArray) (fr := (0, 0)) (heap_alloc_new wr _)⟩⟩ (cp_one _) (by unfold maxLen; omega) (by omega) ?_)
                  intro v8 w8 hown8 hgrow
                  have HB8 := hid (below_of_fr (HB.out.trans (HBX.out.mono HBS.out)) hgrow HOA.out (Nat.le_trans HBS.out HBX.out.size))
                  have HO8 := hid (show ∃ o, OwnSl w8 o 3 v8 (cops row (a + 1)).length ((cops row (a + 1)).flatMap cpCells) ∧ Above w6.heap.size o from ⟨_, by rw [HT3.out, List.length_append, List.flatMap_append]; simpa using hown8, hgrow.mv.above HOA.out (Nat.le_trans HBS.out HBX.out.size)⟩)
                  clear hown8 hgrow HBX HOO HOA HBS HB
                  go_wp2
                  refine ⟨?_, ?_⟩
                  · exact ⟨a + 1, by omega, by go_num, HO8, HB8⟩
                  · (simp [intOf]; try omega)
                · have HT2 := HT.out
                  rw [if_neg hd, List.append_nil] at HT2
                  have HO8 := hid (show ∃ o, OwnSl wr o 3 (.slice Ao P.length co) (cops row (a + 1)).length ((cops row (a + 1)).flatMap cpCells) ∧ Above w6.heap.size o from ⟨o, by rw [HT2]; exact HOO.out, HOA.out⟩)
                  clear HT2 HT HOO HOA
                  go_wp2
                  refine ⟨?_, ?_⟩
                  · exact ⟨a + 1, by omega, by go_num, HO8, HB⟩
                  · (simp [intOf]; try omega)
            · as_aux_lemma => -- T4
                obtain rfl : nR = a := by omega
                obtain ⟨o, ho, hoa⟩ := HO.out
                have HCL := hid (ho.copies (fun x hx => by have := cops_lt row _ x hx; omega) (by have := cops_len row nR; omega))
                have hc4 := cops_len row nR
                have HND := hid (cops_nodup row nR)
                have HLN := hid (fun D => (left_len row D nR (by rw [HNRW.out]; exact Nat.le_refl _)).trans (by rw [← HNRW.out, List.take_length]))
                have HHT := hid (fun D (hh : (leftOf (cops row nR) D).length < (cops row nR).length) => (show hitOf row D = true from by
                  have := hit_len row D nR (by rw [HNRW.out]; exact Nat.le_refl _) hh
                  rwa [← HNRW.out, List.take_length] at this))
                obtain ⟨Ac, cc, rfl, hcc⟩ := ho.form
                have HBC := hid HB.out
                obtain ⟨cs, hcs⟩ : ∃ cs, cops row nR = cs := ⟨_, rfl⟩
                rw [hcs] at HCL hc4 HND HLN HHT hcc ⊢
                obtain ⟨nc, hnc'⟩ : ∃ n, cs.length = n := ⟨_, rfl⟩
                have HNC := hid hnc'
                rw [hnc'] at HCL hc4 hcc ⊢
                clear ho hoa HO hcs hnc' HB
                rename World => w7
                go_wp2_with fail
                clear zn
                go_loopw [14] (fun i wx => ∃ b : Nat, b ≤ nL ∧ i = .int .i64 (b : Nat) ∧ Hid (Below w7.heap.size w7 wx)) (fun i _ => (nL - intOf i).toNat)
                case atStart => exact ⟨0, Nat.zero_le _, rfl, hid (Below.refl _ _)⟩
                case round =>
                  obtain ⟨b, hb, rfl, HX⟩ := hrel
                  by_cases hbl : b < nL
                  · as_aux_lemma => -- T5
                      have hbL : b < L.length := by rw [HNL.out]; exact hbl
                      obtain ⟨gw, ow, cw', e, hgw, u, hu, hul⟩ := HW.out.get b hbL
                      injection e with ea eb ec
                      subst ea
                      have hFD := HFT.out _ (List.getElem_mem hbL)
                      obtain ⟨D, hD⟩ : ∃ D, L[b] = D := ⟨_, rfl⟩
                      rw [hD] at hFD hul
                      have HFD := hid hFD
                      have HDL := hid hul
                      obtain ⟨Ad, cd, rfl, hdc, hdm, hds⟩ := hul
                      obtain ⟨nD, hnD⟩ : ∃ n, D.length = n := ⟨_, rfl⟩
                      have HND2 := hid hnD
                      rw [hnD] at hu hdc HDL
                      have HU2 := hid hu
                      have HDS := hid hds
                      unfold maxLen at hdm
                      clear hFD hD hu hds hnD eb ec
                      go_wp2_with fail
                      go_loopw [15, 16] (fun m i wx => ∃ t : Nat, t ≤ nc ∧ i = .int .i64 (t : Nat) ∧ Hid (∃ o, OwnSl wx o 3 m (leftOf (cs.take t) D).length ((leftOf (cs.take t) D).flatMap cpCells) ∧ Above w7.heap.size o) ∧ Hid (Below w7.heap.size w7 wx)) (fun _ i _ => (nc - intOf i).toNat)
                      case atStart => exact ⟨0, Nat.zero_le _, rfl, hid ⟨NoOwn, OwnSl.nil _ _ _, fun _ e => e.elim⟩, HX⟩
                      case round =>
                        clear HX
                        obtain ⟨t, ht, rfl, HO, HX⟩ := hrel
                        have zw := ((HBC.out.trans (HX.out.mono HBC.out.size)).cell (p := ⟨gw, ow + b, none⟩) hgw).trans HU2.out
                        by_cases htc : t < nc
                        · as_aux_lemma => -- T6
                            have htl : t < cs.length := by rw [HNC.out]; exact htc
                            obtain ⟨_, _, A', c', e, _, _, hcell⟩ := HCL.out.below HX.out
                            injection e with ea eb ec
                            subst ea
                            obtain ⟨gc, oc, rfl, hgc, hcell2⟩ := hcell (by omega)
                            obtain ⟨z0, z1, z2⟩ := hcell2 t htl
                            have HT := hid (show leftOf (cs.take (t + 1)) D = leftOf (cs.take t) D ++ if cs[t].2 ∈ D then [] else [cs[t]] by rw [List.take_succ_eq_append_getElem htl, left_snoc])
                            have hPl : (leftOf (cs.take t) D).length ≤ 4 := Nat.le_trans (List.length_filter_le _ _) (by rw [List.length_take]; omega)
                            obtain ⟨x, hx⟩ : ∃ x, cs[t] = x := ⟨_, rfl⟩
                            rw [hx] at z0 z1 HT
                            obtain ⟨f, d⟩ := x
                            dsimp only at z0 z1 HT
                            generalize leftOf (cs.take t) D = P at *
                            obtain ⟨o, ho, hoa⟩ := HO.out
                            obtain ⟨Ao, co, rfl, hco⟩ := ho.form
                            have HOO := hid ho
                            have HOA := hid hoa
                            have HBS := hid HX.out.size
                            have HGC := hid (show gc < wr.heap.size from hgc)
                            have Z0 := hid z0
                            have Z1 := hid z1
                            have Z2 := hid z2
                            have HZW := hid zw
                            have HGW := hid (Nat.lt_of_lt_of_le hgw (HBC.out.trans (HX.out.mono HBC.out.size)).size)
                            have HBD := hid (HBC.out.trans (HX.out.mono HBC.out.size))
                            clear hcell hcell2 hx ho hoa HO eb ec z0 z1 z2 zw htl
                            rename World => wv
                            go_wp2_with fail
                            go_loopw [17, 18] (fun m i wx => ∃ (bb : Bool) (s : Nat), s ≤ nD ∧ m = .bool bb ∧ i = .int .i64 (s : Nat) ∧ Hid (bb = decide (d ∈ D.take s)) ∧ Hid (Below wv.heap.size wv wx)) (fun _ i _ => (nD - intOf i).toNat)
                            case atStart => exact ⟨false, 0, Nat.zero_le _, rfl, rfl, hid (by simp), hid (Below.refl _ _)⟩
                            case round =>
                              obtain ⟨bb, s, hs, rfl, rfl, HM, HY⟩ := hrel
                              have zw : wr.cell? ⟨gw, ow + b, none⟩ = some (.slice Ad nD cd) := (HY.out.cell (p := ⟨gw, ow + b, none⟩) HGW.out).trans HZW.out
                              by_cases hsl : s < nD
                              · as_aux_lemma => -- T6a
                                  have hsd : s < D.length := by rw [HND2.out]; exact hsl
                                  obtain ⟨gd, od, rfl, hgd, hdc2⟩ := HDS.out (by omega)
                                  have HTD := hid (show D.take (s + 1) = D.take s ++ [D[s]] from take_snoc D s hsd)
                                  have zd := (HY.out.cell (p := ⟨gd, od + s, none⟩) (Nat.lt_of_lt_of_le hgd HBD.out.size)).trans ((HBD.out.cell (p := ⟨gd, od + s, none⟩) hgd).trans (hdc2 s hsd))
                                  have z1 := (HY.out.cell (p := ⟨gc, oc + t * 3 + 1, none⟩) HGC.out).trans Z1.out
                                  generalize D[s] = y at *
                                  have q1 : ∀ n, (wr.drewN n).cell? ⟨gw, ow + b, none⟩ = some (.slice (some ⟨gd, od, none⟩) nD cd) := fun _ => zw
                                  have q2 : ∀ n, (wr.drewN n).cell? ⟨gd, od + s, none⟩ = some (.int .i64 y) := fun _ => zd
                                  have q3 : ∀ n, (wr.drewN n).cell? ⟨gc, oc + t * 3 + 1, none⟩ = some (.int .i64 d) := fun _ => z1
                                  have j1 : (b : Int) < (nL : Int) := by omega
                                  have j2 : (s : Int) < (nD : Int) := by omega
                                  have j3 : (t : Int) < (nc : Int) := by omega
                                  clear zd z1 hdc2 hsd
                                  cases bb
                                  case true =>
                                    go_upto_region 29 with fail
                                    clear zw
                                    go_quiet (fail)
                                    rename_i nq
                                    have HY2 := hid (HY.out.trans ((below_drew wr nq).mono HY.out.size))
                                    have HM2 := hid (show true = decide (d ∈ D.take (s + 1)) from by
                                      have hm := of_decide_eq_true HM.out.symm
                                      rw [HTD.out, decide_eq_true (List.mem_append.2 (.inl hm))])
                                    clear q1 q2 q3 HY HM
                                    go_wp2
                                    refine ⟨?_, ?_⟩
                                    · exact ⟨true, s + 1, by omega, rfl, by go_num, HM2, HY2⟩
                                    · (simp [intOf]; try omega)
                                  case false =>
                                    go_upto_region 29 with fail
                                    clear zw
                                    go_quiet (fail)
                                    rename_i nq
                                    have HY2 := hid (HY.out.trans ((below_drew wr nq).mono HY.out.size))
                                    have HM2 := hid (show (y == d) = decide (d ∈ D.take (s + 1)) from by
                                      have hm := of_decide_eq_false HM.out.symm
                                      rw [HTD.out]
                                      by_cases hyd : y = d
                                      · subst hyd
                                        simp
                                      · have : ¬ d ∈ D.take s ++ [y] := fun e => by
                                          rcases List.mem_append.1 e with e | e
                                          · exact hm e
                                          · simp at e; exact hyd e.symm
                                        rw [decide_eq_false this]
                                        simpa using hyd)
                                    clear q1 q2 q3 HY HM
                                    go_wp2
                                    refine ⟨?_, ?_⟩
                                    · exact ⟨_, s + 1, by omega, rfl, by go_num, HM2, HY2⟩
                                    · (simp [intOf]; try omega)
                              · as_aux_lemma => -- T6b
                                  obtain rfl : nD = s := by omega
                                  have hM := HM.out
                                  rw [← HND2.out, List.take_length] at hM
                                  have y0 := (HY.out.cell (p := ⟨gc, oc + t * 3, none⟩) HGC.out).trans Z0.out
                                  have y1 := (HY.out.cell (p := ⟨gc, oc + t * 3 + 1, none⟩) HGC.out).trans Z1.out
                                  have y2 := (HY.out.cell (p := ⟨gc, oc + t * 3 + 2, none⟩) HGC.out).trans Z2.out
                                  have HX2 := hid (HX.out.trans (HY.out.mono HX.out.size))
                                  cases bb
                                  case true =>
                                    have hm := of_decide_eq_true hM.symm
                                    have HO8 := hid (show ∃ o, OwnSl wr o 3 (.slice Ao P.length co) (leftOf (cs.take (t + 1)) D).length ((leftOf (cs.take (t + 1)) D).flatMap cpCells) ∧ Above w7.heap.size o from ⟨o, by rw [HT.out, if_pos hm, List.append_nil]; exact HOO.out.below HY.out, HOA.out⟩)
                                    clear hM hm HM HY HX HOO HOA y0 y1 y2
                                    go_wp2
                                    refine ⟨?_, ?_⟩
                                    · exact ⟨t + 1, by omega, by go_num, HO8, HX2⟩
                                    · (simp [intOf]; try omega)
                                  case false =>
                                    have hm := of_decide_eq_false hM.symm
                                    have HT2 := HT.out
                                    rw [if_neg hm] at HT2
                                    have HT3 := hid HT2
                                    have HO5 := hid (HOO.out.below HY.out)
                                    have HBX := hid ((Below.refl wr.heap.size wr).alloc (Nat.le_refl _) (.cells (cpCells (f, d)).toArray 55))
                                    clear hM hm HM HY HOO HT2 HT
                                    go_upto_region 31 with fail
                                    go_wp2_with (at_builtin; refine wpList_append_sl (by rfl) (.tmp 126) (.tmp 131) 53 (by rfl) 55 i0 _ 3 24 Try.underlying53 hi0 hz0 hz1 hz2 rfl (by decide) o _ (.slice (some ⟨wr.heap.size, 0, none⟩) 1 1) P.length 1 (P.flatMap cpCells) (cpCells (f, d)) (by rfl) (by rfl) (HO5.out.below HBX.out) ⟨rfl, .inr ⟨_, 1, rfl, World.news_of_block (cs := (cpCells (f, d)).toArray) (fr := (0, 0)) (heap_alloc_new wr _)⟩⟩ (cp_one _) (by unfold maxLen; omega) (by omega) ?_)
                                    intro v8 w8 hown8 hgrow
                                    have hsz := HX2.out.size
                                    have HB8 := hid (below_of_fr (HX2.out.trans (HBX.out.mono hsz)) hgrow HOA.out (Nat.le_trans hsz HBX.out.size))
                                    have HO8 := hid (show ∃ o, OwnSl w8 o 3 v8 (leftOf (cs.take (t + 1)) D).length ((leftOf (cs.take (t + 1)) D).flatMap cpCells) ∧ Above w7.heap.size o from ⟨_, by rw [HT3.out, List.length_append, List.flatMap_append]; simpa using hown8, hgrow.mv.above HOA.out (Nat.le_trans hsz HBX.out.size)⟩)
                                    clear hown8 hgrow HBX HO5 HOA hsz HX HX2 y0 y1 y2
                                    go_wp2
                                    refine ⟨?_, ?_⟩
                                    · exact ⟨t + 1, by omega, by go_num, HO8, HB8⟩
                                    · (simp [intOf]; try omega)
                        · as_aux_lemma => -- T7
                            obtain rfl : nc = t := by omega
                            obtain ⟨o, ho, hoa⟩ := HO.out
                            have hle : cs.take nc = cs := by rw [← HNC.out, List.take_length]
                            rw [hle] at ho
                            have hll : (leftOf cs D).length ≤ nc := by
                              have := List.length_filter_le (fun x : Nat × Int => !decide (x.2 ∈ D)) cs
                              rw [HNC.out] at this
                              exact this
                            have HCP := hid (ho.copies (fun x hx => HCL.out.1 x (List.mem_filter.1 hx).1) (by omega))
                            have HLD := hid (show ((leftOf cs D).map (·.1)).Nodup from (List.filter_sublist.map _).nodup HND.out)
                            have hln := HLN.out D
                            have hht := HHT.out D
                            obtain ⟨Am, cm, rfl, hcm⟩ := ho.form
                            have HKEY := hid (show (leftOf cs D).length < nc → (kq : Int) + rr ≤ ((leftOf cs D).length : Int) from fun hlt => by
                              have h2 := HFD.out (hht (by rw [HNC.out]; exact hlt))
                              rwa [← hln] at h2)
                            obtain ⟨nl, hnl⟩ : ∃ n, (leftOf cs D).length = n := ⟨_, rfl⟩
                            have HNLS := hid hnl
                            rw [hnl] at HCP hll hcm HKEY ⊢
                            have HBW := hid (HBC.out.trans (HX.out.mono HBC.out.size))
                            have f0 : wr.cell? ⟨gb, 0, none⟩ = some (.int .i64 (exn : Int)) := cell_block ((HBW.out.block _ (Array.getElem?_eq_some_iff.1 HG.out).1).trans HG.out) 0
                            clear ho hoa HO hle hnl hln hht
                            go_wp2_with fail
                            refine (margin_any HCP.out HLD.out (by rw [HNLS.out]; omega) kq exn (by omega) (by omega)).mono ?_
                            rintro e w8 ⟨rfl, hb8⟩
                            rw [HNLS.out]
                            have HX8 := hid (HX.out.trans (hb8.mono HX.out.size))
                            have HBW8 := hid (HBW.out.trans (hb8.mono HBW.out.size))
                            clear hb8 f0 zw HX HBW HCP HLD
                            have j1 : (b : Int) < (nL : Int) := by omega
                            by_cases hlt : nl < nc
                            · have hge := HKEY.out hlt
                              have hltI : (nl : Int) < (nc : Int) := by omega
                              have hn1 : ¬ (nl : Int) - (kq : Int) < rr := by omega
                              have hn2 : decide ((nl : Int) - (kq : Int) < rr) = false := decide_eq_false hn1
                              have HSV := hid (show decide (kq ≤ (leftOf cs D).length) = true from decide_eq_true (by rw [HNLS.out]; omega))
                              have HS := hid (fun (W : World) (hW : Below w8.heap.size w8 W) => (⟨cell_block (((HBW8.out.trans (hW.mono HBW8.out.size)).block _ (Array.getElem?_eq_some_iff.1 HG.out).1).trans HG.out) 0, ((HBW8.out.trans (hW.mono HBW8.out.size)).cell (p := ⟨gw, ow + b, none⟩) hgw).trans HU2.out⟩ : W.cell? ⟨gb, 0, none⟩ = some (.int .i64 (exn : Int)) ∧ W.cell? ⟨gw, ow + b, none⟩ = some (.slice Ad nD cd)))
                              clear hge hn1
                              go_upto_region 33 with fail
                              have HWv := hid ((Below.refl w8.heap.size w8).drew)
                              go_region_held3 (fun w' => w'.cell? ⟨gb, 0, none⟩ = some (.int .i64 (exn : Int)) ∧ w'.cell? ⟨gw, ow + b, none⟩ = some (.slice Ad nD cd))
                                (first | (with_reducible exact HS.out _ HWv.out))
                                ((go_at_call 10; refine (survives_any ((HCL.out.below HX8.out).below HWv.out) HND.out (by rw [HNC.out]; omega) ((HDL.out.below HBW8.out).below HWv.out) kq exn (by omega) (by omega)).mono ?_; rintro e wx ⟨rfl, hb⟩; rw [HSV.out]; replace HWv := hid (HWv.out.trans (hb.mono HWv.out.size)); clear hb))
                              all_goals
                                have HX9 := hid (HX8.out.trans (HWv.out.mono HX8.out.size))
                                clear HS HX8 HBW8 HWv HSV
                                go_wp2
                                refine ⟨?_, ?_⟩
                                · exact ⟨b + 1, by omega, by go_num, HX9⟩
                                · (simp [intOf]; try omega)
                            · have hltI : ¬ (nl : Int) < (nc : Int) := by omega
                              have hltD : decide ((nl : Int) < (nc : Int)) = false := decide_eq_false hltI
                              go_upto_region 33 with fail
                              go_quiet (fail)
                              rename_i nq
                              have HX9 := hid (HX8.out.trans ((below_drew w8 nq).mono HX8.out.size))
                              clear HX8 HBW8
                              go_wp2
                              refine ⟨?_, ?_⟩
                              · exact ⟨b + 1, by omega, by go_num, HX9⟩
                              · (simp [intOf]; try omega)
                  · as_aux_lemma => -- T9
                      obtain rfl : nL = b := by omega
                      have HB9 := hid (HBC.out.trans (HX.out.mono HBC.out.size))
                      clear HX
                      go_wp2
                      refine ⟨?_, ?_⟩
                      · exact ⟨q + 1, by omega, by go_num, HB9⟩
                      · (simp [intOf]; try omega)
      · as_aux_lemma => -- T8
          obtain rfl : nv = q := by omega
          go_wp2_with fail
          refine (runsum_any _).mono ?_
          rintro e w7 ⟨rfl, rfl⟩
          go_wp2
          go_ret
          exact ⟨rfl, HB6.out.trans (HB.out.mono HB6.out.size)⟩
end Go.Proofs.Ytpoaadjhaknhdaa
