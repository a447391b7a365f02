/- rollout: fits. -/
import Derived.Test.YtpoaadjhaknhdaaMD
namespace Go.Proofs.Ytpoaadjhaknhdaa
open Go Go.RowKit Go.Sort Go.Deep

/-- The volumes of a fleet: K and M of their policies. -/
structure VolsIn (w : World) (vp vv : Value) (KM : List (Nat × Nat)) : Prop where
  small : ∀ x ∈ KM, 1 ≤ x.1 ∧ x.1 ≤ 2 ∧ x.2 ≤ 2
  len : KM.length ≤ 100
  at_ : ∃ gp op cp np gv ov cv, vp = .slice (some ⟨gp, op, none⟩) np cp ∧ vv = .slice (some ⟨gv, ov, none⟩) KM.length cv ∧ gp < w.heap.size ∧ gv < w.heap.size ∧ np ≤ maxLen ∧
    ∀ j (h : j < KM.length), ∃ p : Nat, p < np ∧ w.cell? ⟨gv, ov + j * 2 + 1, none⟩ = some (.int .i64 (p : Int)) ∧ w.cell? ⟨gp, op + p * 17 + 1, none⟩ = some (.int .i64 (KM[j].1 : Int)) ∧ w.cell? ⟨gp, op + p * 17 + 2, none⟩ = some (.int .i64 (KM[j].2 : Int))
theorem VolsIn.below {w w' : World} {vp vv : Value} {KM : List (Nat × Nat)} (h : VolsIn w vp vv KM) (hb : Below w.heap.size w w') : VolsIn w' vp vv KM := by
  obtain ⟨h1, h2, gp, op, cp, np, gv, ov, cv, e1, e2, hgp, hgv, hn, h3⟩ := h
  refine ⟨h1, h2, gp, op, cp, np, gv, ov, cv, e1, e2, Nat.lt_of_lt_of_le hgp hb.size, Nat.lt_of_lt_of_le hgv hb.size, hn, fun j hj => ?_⟩
  obtain ⟨p, hp, a, b, c⟩ := h3 j hj
  exact ⟨p, hp, (hb.cell (p := ⟨gv, ov + j * 2 + 1, none⟩) hgv).trans a, (hb.cell (p := ⟨gp, op + p * 17 + 1, none⟩) hgp).trans b, (hb.cell (p := ⟨gp, op + p * 17 + 2, none⟩) hgp).trans c⟩
/-- The rows of a layout. -/
def RowsAt (w : World) (v : Value) (rows : List (List Int)) : Prop := ∃ A c, v = .slice A rows.length c ∧ rows.length ≤ c ∧ c ≤ maxLen ∧ (0 < rows.length → ∃ g off, A = some ⟨g, off, none⟩ ∧ g < w.heap.size ∧ ∀ j (h : j < rows.length), ∃ u, w.cell? ⟨g, off + j, none⟩ = some u ∧ ListAt w u rows[j])
theorem RowsAt.below {w w' : World} {v : Value} {rows : List (List Int)} (h : RowsAt w v rows) (hb : Below w.heap.size w w') : RowsAt w' v rows := by
  obtain ⟨A, c, e, h1, h2, h3⟩ := h
  refine ⟨A, c, e, h1, h2, fun h0 => ?_⟩
  obtain ⟨g, off, e2, hg, h4⟩ := h3 h0
  refine ⟨g, off, e2, Nat.lt_of_lt_of_le hg hb.size, fun j hj => ?_⟩
  obtain ⟨u, hu, hl⟩ := h4 j hj
  exact ⟨u, (hb.cell (p := ⟨g, off + j, none⟩) hg).trans hu, hl.below hb⟩
def hitOf (l D : List Int) : Bool := l.any fun d => decide (0 ≤ d) && decide (d ∈ D)
def othOf (l D : List Int) : Nat := (l.filter fun d => decide (0 ≤ d) && !decide (d ∈ D)).length
theorem hit_snoc (l D : List Int) (d : Int) : hitOf (l ++ [d]) D = (hitOf l D || (decide (0 ≤ d) && decide (d ∈ D))) := by unfold hitOf; rw [List.any_append]; simp
theorem oth_snoc (l D : List Int) (d : Int) : othOf (l ++ [d]) D = othOf l D + if (decide (0 ≤ d) && !decide (d ∈ D)) = true then 1 else 0 := by
  unfold othOf
  rw [List.filter_append, List.length_append]
  congr 1
  cases h : (decide (0 ≤ d) && !decide (d ∈ D)) <;> simp [h]
theorem oth_le (l D : List Int) : othOf l D ≤ l.length := List.length_filter_le _ _
def FitsAll (rows : List (List Int)) (D : List Int) (KM : List (Nat × Nat)) (r : Int) : Prop := ∀ v (h : v < rows.length), hitOf rows[v] D = true → ((KM.getD v (0, 0)).1 : Int) + r ≤ (othOf rows[v] D : Int)
def FitsPost (rows : List (List Int)) (D : List Int) (KM : List (Nat × Nat)) (r : Int) (w : World) (e : Ending) (w' : World) : Prop := ∃ b : Bool, e = .returned (.bool b) ∧ (b = true → FitsAll rows D KM r) ∧ Below w.heap.size w w'
set_option maxRecDepth 100000 in
set_option maxHeartbeats 3200000 in
theorem fits_any {w : World} {ex : Int} {vl vm vd vr vp vv vn vD : Value} {KM : List (Nat × Nat)} {rows : List (List Int)} {D : List Int} {r : Int} (hk : VolsIn w vp vv KM) (hn : RowsAt w vn rows) (hlen : rows.length = KM.length) (hrow : ∀ x ∈ rows, x.length ≤ 100) (hD : ListAt w vD D) (hr : 0 ≤ r ∧ r ≤ 4) :
    Calls Try.prog 18 #[.agg (fleetArr ex vl vm vd vr vp vv), vn, .int .i64 r, vD] w (FitsPost rows D KM r w) := by
  have hb1 := (Below.refl w.heap.size w).alloc (Nat.le_refl _) (.cells (fleetArr ex vl vm vd vr vp vv) 33)
  have hg1 := heap_alloc_new w (.cells (fleetArr ex vl vm vd vr vp vv) 33)
  have HK := hid (hk.below hb1)
  have HN := hid (hn.below hb1)
  have HD := hid (hD.below hb1)
  have HB := hid hb1
  have HG := hid hg1
  obtain ⟨An, cn, rfl, hnc, hnm, _⟩ := hn
  obtain ⟨Ad, cd, rfl, _⟩ := hD
  have hRL := hk.len
  have HRW := hid hrow
  have HLEN := hid hlen
  obtain ⟨hr0, hr4⟩ := hr
  unfold maxLen at hnm
  obtain ⟨nr, hnr⟩ : ∃ n, rows.length = n := ⟨_, rfl⟩
  have HNR := hid hnr
  have hnr2 : nr ≤ 100 := by omega
  rw [hnr] at hnc ⊢
  clear hk hb1 hg1 hrow hlen hnr
  go_enter Try.func18, Try.ntmps18
  go_wp2_with fail
  generalize w.alloc (.cells (fleetArr ex vl vm vd vr vp vv) 33) = w1 at *
  go_loopw [17] (fun i wr => ∃ q : Nat, q ≤ nr ∧ i = .int .i64 q ∧ Hid (∀ v (h : v < rows.length), v < q → hitOf rows[v] D = true → ((KM.getD v (0, 0)).1 : Int) + r ≤ (othOf rows[v] D : Int)) ∧ Hid (Below w1.heap.size w1 wr)) (fun i _ => (nr - intOf i).toNat)
  case atStart => exact ⟨0, Nat.zero_le _, rfl, hid (fun v h h2 => by omega), hid (Below.refl _ _)⟩
  case round =>
    obtain ⟨q, hq, rfl, HF, HW⟩ := hrel
    by_cases hlt : q < nr
    · have HDr := hid (HD.out.below HW.out)
      obtain ⟨A', c', e, _, _, hro⟩ := HN.out.below HW.out
      obtain ⟨gn, on, rfl, hgn, hrw⟩ := hro (by rw [HNR.out]; omega)
      injection e with e1 _ e3
      subst e1 e3
      have hq2 : q < rows.length := by rw [HNR.out]; exact hlt
      obtain ⟨u, hu, hlist⟩ := hrw q hq2
      have HR := hid (HRW.out rows[q] (List.getElem_mem hq2))
      have HQR := hid (show ∀ v (h : v < rows.length), v < q + 1 → v < q ∨ v = q from fun v _ h => by omega)
      obtain ⟨row, hrowe⟩ : ∃ row, rows[q] = row := ⟨_, rfl⟩
      rw [hrowe] at hlist HR
      have HRE := hid hrowe
      obtain ⟨Al, cl, rfl, hlc, hlm, hls⟩ := id hlist
      have HLS := hid hls
      have hrl := HR.out
      unfold maxLen at hlm
      clear hrw hro hlist hls hrowe
      go_wp2_with fail
      go_loopw [11, 12, 24] (fun hi ot i wx => ∃ (p o : Nat) (h : Bool), p ≤ row.length ∧ i = .int .i64 p ∧ hi = .bool h ∧ ot = .int .i64 o ∧ o ≤ p ∧ Hid (h = hitOf (row.take p) D) ∧ Hid (o = othOf (row.take p) D) ∧ Hid (wx = wr)) (fun _ _ i _ => (row.length - intOf i).toNat)
      case atStart => exact ⟨0, 0, false, Nat.zero_le _, rfl, rfl, rfl, Nat.le_refl _, hid rfl, hid rfl, hid rfl⟩
      case round =>
        obtain ⟨p, o, hh, hp, rfl, rfl, rfl, hop, HH, HO, HW2⟩ := hrel
        obtain rfl := HW2.out
        by_cases hpl : p < row.length
        · obtain ⟨gl, ol, rfl, hgl, hcl⟩ := HLS.out (by omega)
          have z0 := hcl p hpl
          have HT := hid (show row.take (p + 1) = row.take p ++ [row[p]] from List.take_succ_eq_append_getElem hpl)
          generalize row[p] = d at *
          clear hcl
          by_cases hd0 : d < 0
          · have hnd : ¬ 0 ≤ d := by omega
            have h1 := hid (show hitOf (row.take (p + 1)) D = hh by rw [HT.out, hit_snoc, ← HH.out]; simp [hnd])
            have h2 := hid (show othOf (row.take (p + 1)) D = o by rw [HT.out, oth_snoc, ← HO.out]; simp [hnd])
            clear hnd
            go_wp2
            refine ⟨?_, ?_⟩
            · first
                | exact ⟨p + 1, o, hh, by omega, by go_num, rfl, rfl, by omega, hid h1.out.symm, hid h2.out.symm, (by first | exact hid rfl | exact hid trivial)⟩
                | exact ⟨_, _, _, _, _, _, _, _, _, _, _, _, _, _, _, _, _, _, ⟨p + 1, o, hh, by omega, by go_num, rfl, rfl, by omega, hid h1.out.symm, hid h2.out.symm, (by first | exact hid rfl | exact hid trivial)⟩, rfl⟩
            · (simp [intOf]; try omega)
          · have hd1 : 0 ≤ d := by omega
            go_wp2_with fail
            refine (contains_any HDr.out d).mono ?_
            rintro e w5 ⟨rfl, rfl⟩
            by_cases hdm : d ∈ D
            · rw [decide_eq_true hdm]
              have h1 := hid (show hitOf (row.take (p + 1)) D = true by rw [HT.out, hit_snoc]; simp [hd1, hdm])
              have h2 := hid (show othOf (row.take (p + 1)) D = o by rw [HT.out, oth_snoc, ← HO.out]; simp [hdm])
              clear hdm
              go_wp2
              refine ⟨?_, ?_⟩
              · first
                  | exact ⟨p + 1, o, true, by omega, by go_num, rfl, rfl, by omega, hid h1.out.symm, hid h2.out.symm, (by first | exact hid rfl | exact hid trivial)⟩
                  | exact ⟨_, _, _, _, _, _, _, _, _, _, _, _, _, _, _, _, _, _, ⟨p + 1, o, true, by omega, by go_num, rfl, rfl, by omega, hid h1.out.symm, hid h2.out.symm, (by first | exact hid rfl | exact hid trivial)⟩, rfl⟩
              · (simp [intOf]; try omega)
            · rw [decide_eq_false hdm]
              have h1 := hid (show hitOf (row.take (p + 1)) D = hh by rw [HT.out, hit_snoc, ← HH.out]; simp [hdm])
              have h2 := hid (show othOf (row.take (p + 1)) D = o + 1 by rw [HT.out, oth_snoc, ← HO.out]; simp [hdm, hd1])
              clear hdm
              go_wp2
              refine ⟨?_, ?_⟩
              · first
                  | exact ⟨p + 1, o + 1, hh, by omega, by go_num, rfl, by go_num, by omega, hid h1.out.symm, hid h2.out.symm, (by first | exact hid rfl | exact hid trivial)⟩
                  | exact ⟨_, _, _, _, _, _, _, _, _, _, _, _, _, _, _, _, _, _, ⟨p + 1, o + 1, hh, by omega, by go_num, rfl, by go_num, by omega, hid h1.out.symm, hid h2.out.symm, (by first | exact hid rfl | exact hid trivial)⟩, rfl⟩
              · (simp [intOf]; try omega)
        · obtain rfl : p = row.length := by omega
          have hH := HH.out
          have hO := HO.out
          rw [List.take_length] at hH hO
          have HH2 := hid hH
          have HO2 := hid hO
          clear hH hO HH HO
          have hqk : q < KM.length := by rw [← HLEN.out, HNR.out]; exact hlt
          obtain ⟨hsm, _, gp, op, cp, np, gv, ov, cv, rfl, rfl, hgp, hgv, hnp, hvol⟩ := HK.out.below HW.out
          obtain ⟨pp, hpp, l1, l2, _⟩ := hvol q hqk
          have hkk := hsm KM[q] (List.getElem_mem hqk)
          have HKD := hid (show (KM.getD q (0, 0)).1 = KM[q].1 by rw [List.getD_eq_getElem?_getD, List.getElem?_eq_getElem hqk]; rfl)
          obtain ⟨hk1, hk2, _⟩ := hkk
          generalize KM[q].1 = kq at *
          have hgw := (HW.out.block _ (Array.getElem?_eq_some_iff.1 HG.out).1).trans HG.out
          have g5 := cell_block hgw 5
          have g6 := cell_block hgw 6
          clear hgw
          simp only [fleetArr, List.getElem?_toArray, List.getElem?_cons_zero, List.getElem?_cons_succ] at g5 g6
          have q5 : ∀ n, (wr.drewN n).cell? ⟨w.heap.size, 5, none⟩ = some (.slice (some ⟨gp, op, none⟩) np cp) := fun _ => g5
          have q6 : ∀ n, (wr.drewN n).cell? ⟨w.heap.size, 6, none⟩ = some (.slice (some ⟨gv, ov, none⟩) KM.length cv) := fun _ => g6
          have q7 : ∀ n, (wr.drewN n).cell? ⟨gv, ov + q * 2 + 1, none⟩ = some (.int .i64 (pp : Int)) := fun _ => l1
          have q8 : ∀ n, (wr.drewN n).cell? ⟨gp, op + pp * 17 + 1, none⟩ = some (.int .i64 (kq : Int)) := fun _ => l2
          have i1 : (q : Int) < (KM.length : Int) := by omega
          have i2 : (pp : Int) < (np : Int) := by omega
          have i3 : (0 : Int) ≤ (pp : Int) := by omega
          have i4 := wrap_small ((kq : Int) + r) (by omega) (by omega)
          unfold maxLen at hnp
          clear g5 g6 l1 l2 hvol hsm
          cases hh
          · go_upto_region 13 with fail
            go_quiet (fail)
            rename_i nq
            have HW3 : Hid (Below w1.heap.size w1 (wr.drewN nq)) := hid (HW.out.trans ((below_drew wr nq).mono HW.out.size))
            have HF3 := hid (show ∀ v (h : v < rows.length), v < q + 1 → hitOf rows[v] D = true → ((KM.getD v (0, 0)).1 : Int) + r ≤ (othOf rows[v] D : Int) from fun v h h2 h3 => by
              rcases HQR.out v h h2 with h4 | rfl
              · exact HF.out v h h4 h3
              · rw [HRE.out] at h3; rw [← HH2.out] at h3; cases h3)
            go_wp2
            refine ⟨?_, ?_⟩
            · first
                | exact ⟨q + 1, by omega, by go_num, HF3, HW3⟩
                | exact ⟨_, _, _, _, _, _, _, _, _, _, _, _, _, _, _, _, _, _, _, _, _, _, _, _, _, _, _, _, _, _, _, _, _, _, _, _, _, _, _, _, _, _, _, _, _, _, ⟨q + 1, by omega, by go_num, HF3, HW3⟩, rfl⟩
            · (simp [intOf]; try omega)
          · by_cases hlo : (o : Int) < (kq : Int) + r
            · go_upto_region 13 with fail
              go_quiet (fail)
              go_wp2
              go_ret
              exact ⟨_, rfl, (fun h => by simp at h), (HB.out.trans (HW.out.mono HB.out.size)).trans ((below_drew _ _).mono (HB.out.trans (HW.out.mono HB.out.size)).size)⟩
            · go_upto_region 13 with fail
              go_quiet (fail)
              rename_i nq
              have HW3 : Hid (Below w1.heap.size w1 (wr.drewN nq)) := hid (HW.out.trans ((below_drew wr nq).mono HW.out.size))
              have HF3 := hid (show ∀ v (h : v < rows.length), v < q + 1 → hitOf rows[v] D = true → ((KM.getD v (0, 0)).1 : Int) + r ≤ (othOf rows[v] D : Int) from fun v h h2 h3 => by
                rcases HQR.out v h h2 with h4 | rfl
                · exact HF.out v h h4 h3
                · rw [HRE.out, HKD.out, ← HO2.out]; omega)
              go_wp2
              refine ⟨?_, ?_⟩
              · first
                  | exact ⟨q + 1, by omega, by go_num, HF3, HW3⟩
                  | exact ⟨_, _, _, _, _, _, _, _, _, _, _, _, _, _, _, _, _, _, _, _, _, _, _, _, _, _, _, _, _, _, _, _, _, _, _, _, _, _, _, _, _, _, _, _, _, _, ⟨q + 1, by omega, by go_num, HF3, HW3⟩, rfl⟩
              · (simp [intOf]; try omega)
    · obtain rfl : q = nr := by omega
      go_wp2
      go_ret
      exact ⟨_, rfl, (fun _ v h => HF.out v h (by rw [← HNR.out]; exact h)), HB.out.trans (HW.out.mono HB.out.size)⟩
end Go.Proofs.Ytpoaadjhaknhdaa
