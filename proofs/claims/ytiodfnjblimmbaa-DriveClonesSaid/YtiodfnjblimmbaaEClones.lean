/- DriveClones. -/
import Derived.Test.YtiodfnjblimmbaaERefClone
namespace Go.Proofs.Ytiodfnjblimmbaa
open Go Go.RowKit Go.Sort

theorem sz_a (w : World) (o : Obj) : (w.alloc o).heap.size = w.heap.size + 1 := by simp
theorem sz_d (w : World) : w.drew.heap.size = w.heap.size := rfl
theorem Game.aside {w0 w w' : World} {q a b n : Nat} {S : Dv} {o1 o2 p : Own} (h : Game w0 q a b n S w o1 o2) (hf : Fr p w w') (ha : Apart (Or o1 o2) p) (hx : ¬ p q) (hb : Below w0.heap.size w0 w') : Game w0 q a b n S w' o1 o2 :=
  ⟨h.both.fr hf (fun k e1 e2 => ha k (.inl e1) e2) (fun k e1 e2 => ha k (.inr e1) e2), h.ok, h.few, h.above, h.nq, h.box.fr hf hx, hb⟩
/-- Two pairs side by side. -/
structure Twin (w0 : World) (q q2 a b c d n m : Nat) (S T : Dv) (w : World) (o1 o2 p1 p2 : Own) : Prop where
  g1 : Game w0 q a b n S w o1 o2
  g2 : Game w0 q2 c d m T w p1 p2
  ap : Apart (Or o1 o2) (Or p1 p2)
  x1 : ¬ Or o1 o2 q2
  x2 : ¬ Or p1 p2 q
theorem Twin.symm {w0 w : World} {q q2 a b c d n m : Nat} {S T : Dv} {o1 o2 p1 p2 : Own} (h : Twin w0 q q2 a b c d n m S T w o1 o2 p1 p2) : Twin w0 q2 q c d a b m n T S w p1 p2 o1 o2 := ⟨h.g2, h.g1, h.ap.symm, h.x2, h.x1⟩
theorem Twin.then {w0 w w' : World} {q q2 a b c d n m : Nat} {S T : Dv} {o1 o2 p1 p2 : Own} (h : Twin w0 q q2 a b c d n m S T w o1 o2 p1 p2) (hb : Below w.heap.size w w') : Twin w0 q q2 a b c d n m S T w' o1 o2 p1 p2 := ⟨h.g1.then hb, h.g2.then hb, h.ap, h.x1, h.x2⟩
theorem Twin.right {w0 w w' : World} {q q2 a b c d n m : Nat} {S T : Dv} {o1 o2 p1 p2 : Own} (h : Twin w0 q q2 a b c d n m S T w o1 o2 p1 p2) (x : Opr) (hm : Moved w p1 p2 c d (T.step x) w') : ∃ r1 r2, Twin w0 q q2 a b c d n (m + 1) S (T.step x) w' o1 o2 r1 r2 := by
  obtain ⟨r1, r2, hb, hmv⟩ := hm
  have hB := h.g2.below.size
  have hnew : Below w0.heap.size w0 w' := h.g2.below.trans (hmv.fr.below h.g2.above hB)
  refine ⟨r1, r2, h.g1.aside hmv.fr h.ap h.x2 hnew, ⟨hb, h.g2.ok.step x, by have := h.g2.few; have := T.step_pend x; omega, hmv.above h.g2.above hB, fun e => ?_, h.g2.box.fr hmv.fr h.g2.nq, hnew⟩, ?_, h.x1, fun e => ?_⟩
  · rcases hmv.ext q2 e with e | e
    · exact h.g2.nq e
    · have := h.g2.box.lt; omega
  · exact (hmv.apart h.g1.both.under h.ap.symm).symm
  · rcases hmv.ext q e with e | e
    · exact h.x2 e
    · have := h.g1.box.lt; omega
theorem Twin.left {w0 w w' : World} {q q2 a b c d n m : Nat} {S T : Dv} {o1 o2 p1 p2 : Own} (h : Twin w0 q q2 a b c d n m S T w o1 o2 p1 p2) (x : Opr) (hm : Moved w o1 o2 a b (S.step x) w') : ∃ r1 r2, Twin w0 q q2 a b c d (n + 1) m (S.step x) T w' r1 r2 p1 p2 := by
  obtain ⟨r1, r2, ht⟩ := h.symm.right x hm
  exact ⟨r1, r2, ht.symm⟩
theorem twin_store {w0 w5 Y : World} {q q2 a b c d n : Nat} {S : Dv} {o1 o2 p1 p2 : Own} (hg : Game w0 q a b n S w5 o1 o2) (hd : Drv Y p1 c S) (hr : Ref Y p2 d S) (ap : Apart p1 p2) (lo1 : Above w5.heap.size p1) (lo2 : Above w5.heap.size p2)
    (hz : Y.heap[q2]? = some (.cells #[.pointer none, .pointer none] 37 (0, 0))) (lq : w5.heap.size ≤ q2) (n1 : ¬ p1 q2) (n2 : ¬ p2 q2) (hY : Below w5.heap.size w5 Y) :
    Twin w0 q q2 a b c d n n S S (Y.setRow q2 #[.pointer (some ⟨c, 0, none⟩), .pointer (some ⟨d, 0, none⟩)]) o1 o2 p1 p2 := by
  have hfr : Fr (fun k => k = q2) Y (Y.setRow q2 #[.pointer (some ⟨c, 0, none⟩), .pointer (some ⟨d, 0, none⟩)]) := ⟨rfl, rfl, rfl, by simp, fun k _ hk => setRow_other Y _ k _ hk⟩
  have hu := hg.both.under
  have hs := hg.below.size
  have hbox := hg.box.lt
  have hgY := hg.then hY
  have hnew : Below w0.heap.size w0 (Y.setRow q2 #[.pointer (some ⟨c, 0, none⟩), .pointer (some ⟨d, 0, none⟩)]) := below_setRow hgY.below (Nat.le_trans hs lq) _
  have hap : Apart (Or o1 o2) (Or p1 p2) := fun k e1 e2 => by
    have := hu k e1
    rcases e2 with e2 | e2
    · have := lo1 k e2; omega
    · have := lo2 k e2; omega
  refine ⟨hgY.aside hfr (fun k e1 e2 => by have := hu k e1; omega) (by omega) hnew, ⟨⟨hd.fr hfr (fun k e1 e2 => n1 (e2 ▸ e1)), hr.fr hfr (fun k e1 e2 => n2 (e2 ▸ e1)), ap⟩, hg.ok, hg.few, fun k e => ?_, fun e => ?_, setRow_heap Y _ _ _ _ _ hz, hnew⟩, hap, fun e => ?_, fun e => ?_⟩
  · rcases e with e | e
    · have := lo1 k e; omega
    · have := lo2 k e; omega
  · rcases e with e | e
    · exact n1 e
    · exact n2 e
  · have := hu _ e; omega
  · rcases e with e | e
    · have := lo1 _ e; omega
    · have := lo2 _ e; omega
theorem Twin.keep {w0 w : World} {q q2 a b c d n m : Nat} {S T : Dv} {o1 o2 p1 p2 : Own} (h : Twin w0 q q2 a b c d n m S T w o1 o2 p1 p2) : w.cell? ⟨q, 0, none⟩ = some (.pointer (some ⟨a, 0, none⟩)) ∧ w.cell? ⟨q, 1, none⟩ = some (.pointer (some ⟨b, 0, none⟩)) ∧ w.cell? ⟨q2, 0, none⟩ = some (.pointer (some ⟨c, 0, none⟩)) := ⟨h.g1.box.cells.1, h.g1.box.cells.2, h.g2.box.cells.1⟩
theorem steps_succ (S : Dv) (l : List Opr) (k : Nat) (h : k < l.length) : (l.take (k + 1)).foldl Dv.step S = ((l.take k).foldl Dv.step S).step l[k] := by
  rw [List.take_succ_eq_append_getElem h, List.foldl_append]
  rfl
set_option maxRecDepth 100000 in
set_option maxHeartbeats 4000000 in
theorem law_clones (c r : Int) (v v2 : Value) (l l2 : List Opr) (w : World) (hl : OpsAt w v l) (hl2 : OpsAt w v2 l2) :
    Calls Try.prog 13 #[.int .i64 c, .int .i64 r, v, v2] w fun e w' => e = .returned (.bool true) ∧ Below w.heap.size w w' := by
  have HL := hid hl
  have HL2 := hid hl2
  obtain ⟨-, -, A, cap, rfl, hc⟩ := hl
  obtain ⟨-, -, A2, cap2, rfl, hc2⟩ := hl2
  have HC := hid hc
  have HC2 := hid hc2
  clear hc hc2
  go_enter Try.func13, Try.ntmps13
  go_wp2_with fail
  refine (light_any HL.out).mono ?_
  rintro e w1 ⟨lr, rfl, hlr, rfl⟩
  cases lr
  case false =>
    go_wp2_with (go_at_call 16; refine (awake26 _).mono ?_; rintro e w2 ⟨rfl, hb2⟩)
    go_ret
    exact ⟨rfl, hb2⟩
  case true =>
  have hl60 : l.length ≤ 60 := hlr rfl
  clear hlr HL
  go_wp2_with fail
  refine (light_any HL2.out).mono ?_
  rintro e w1 ⟨lr, rfl, hlr, rfl⟩
  cases lr
  case false =>
    go_wp2_with (go_at_call 16; refine (awake26 _).mono ?_; rintro e w2 ⟨rfl, hb2⟩)
    go_ret
    exact ⟨rfl, hb2⟩
  case true =>
  have hl260 : l2.length ≤ 60 := hlr rfl
  clear hlr HL2
  go_wp2_with fail
  refine (make_any c r _).mono ?_
  rintro e w1 ⟨a, b, o1, o2, rfl, hbo, hab, hb1⟩
  have hb2 : Below w1.heap.size w1 (w1.alloc (.cells #[.pointer (some ⟨a, 0, none⟩), .pointer (some ⟨b, 0, none⟩)] 37)) := (Below.refl _ _).alloc (Nat.le_refl _) _
  have hbx : PairBox (w1.alloc (.cells #[.pointer (some ⟨a, 0, none⟩), .pointer (some ⟨b, 0, none⟩)] 37)) w1.heap.size a b := heap_alloc_new w1 _
  obtain ⟨m1, m2, m3, _⟩ := mk_ok c r
  have hgm : Game w w1.heap.size a b 0 (newDv (mkC c) (mkR c r)) (w1.alloc (.cells #[.pointer (some ⟨a, 0, none⟩), .pointer (some ⟨b, 0, none⟩)] 37)) o1 o2 :=
    ⟨hbo.below hb2, newDv_ok _ _ m1 m2 m3, Nat.le_refl _, hab, fun e => by have := hbo.under _ e; omega, hbx, hb1.trans (hb2.mono hb1.size)⟩
  have HG := hid hgm
  clear hgm hbx hb2 hbo hab hb1 m1 m2 m3
  go_upto_region 4 with fail
  generalize w1.alloc (.cells #[.pointer (some ⟨a, 0, none⟩), .pointer (some ⟨b, 0, none⟩)] 37) = w2 at *
  generalize w1.heap.size = q at *
  generalize newDv (mkC c) (mkR c r) = S0 at *
  go_wp2_with fail
  go_loopw [11] (fun i wr => ∃ (k : Nat) (S : Dv) (p1 p2 : Own), k ≤ l.length ∧ i = .int .i64 k ∧ Hid (Game w q a b k S wr p1 p2)) (fun i _ => (l.length - intOf i).toNat)
  case atStart => exact ⟨0, S0, o1, o2, Nat.zero_le _, rfl, HG⟩
  case round =>
    clear HG
    obtain ⟨k, S, p1, p2, hk, rfl, HG⟩ := hrel
    by_cases hlt : k < l.length
    · obtain ⟨bb, off, rfl, hbl, hcell⟩ := HC.out (by omega)
      have HCC := hid (fun (W : World) (hW : Below w.heap.size w W) (j : Nat) (u : Value) (hu : (l.flatMap oprCells)[j]? = some u) => (hW.cell (p := ⟨bb, off + j, none⟩) hbl).trans (hcell j u hu))
      clear hcell
      have hx0 : (0 : Int) ≤ (k : Int) := by omega
      have hx1 : (k : Int) < (l.length : Int) := by omega
      go_upto_region 9 with fail
      have HGD := hid (HG.out.then (w' := wr.drew) ((Below.refl _ _).drew))
      clear HG
      go_region_held3 (fun w' => w'.cell? ⟨q, 0, none⟩ = some (.pointer (some ⟨a, 0, none⟩)) ∧ w'.cell? ⟨q, 1, none⟩ = some (.pointer (some ⟨b, 0, none⟩)) ∧ OpCells w' bb (off + k * 9) l[k])
        (exact ⟨HGD.out.box.cells.1, HGD.out.box.cells.2, OpsAt.cells (HCC.out _ HGD.out.below) k hlt⟩)
        ((go_at_call 31; refine (do_any HGD.out.both HGD.out.ok (by have := HGD.out.few; omega) l[k]).mono ?_; rintro e wx ⟨rfl, hmv⟩; obtain ⟨s1, s2, hg2⟩ := HGD.out.do_ l[k] hmv; replace HGD := hid hg2; clear hg2 hmv))
      go_wp2
      go_roundw
      case rel => exact ⟨k + 1, _, _, _, by omega, by go_num, HGD⟩
      case measure => (simp [intOf]; try omega)
    · have HG2 := hid (HG.out.le (m := 60) (by omega))
      obtain rfl : k = l.length := by omega
      clear HG hk hlt
      rename Hid (Game _ _ _ _ _ _ _ _ _) => HG
      rename World => w5
      go_upto_region 10 with fail
      go_cut [12] (fun s wx => ∃ (q2 c d : Nat) (r1 r2 : Own), s = .pointer (some ⟨q2, 0, none⟩) ∧ Hid (Twin w q q2 a b c d 60 60 S S wx p1 p2 r1 r2))
      case first =>
        refine wp_region_held_drew (S := (fun w' => Below w5.heap.size w5 w')) (by kernel_rfl) ?_ (fun hHeld => ?_)
        · exact (Below.refl _ _).drew
        refine take_mk 0 (v := ?vv1) rfl (by kernel_rfl) (by kernel_rfl) (by kernel_rfl) (fun _ _ _ h => h) (Or.inl ⟨by rfl, ?hy1⟩) (by assumption) ?_
        case hy1 => (intro wx hSw; (try dsimp only at hSw); obtain ⟨c0, c1⟩ := (HG.out.then hSw).box.cells; go_simp; try with_reducible rfl)
        try simp only [Act.put, List.setIfInBounds_toArray, List.set_cons_zero, List.set_cons_succ]
        refine take_mk 1 (v := ?vv2) rfl (by kernel_rfl) (by kernel_rfl) (by kernel_rfl) (fun _ _ _ h => h) (Or.inl ⟨by rfl, ?hy2⟩) (by assumption) ?_
        case hy2 => (intro wx hSw; (try dsimp only at hSw); obtain ⟨c0, c1⟩ := (HG.out.then hSw).box.cells; go_simp; try with_reducible rfl)
        try simp only [Act.put, List.setIfInBounds_toArray, List.set_cons_zero, List.set_cons_succ]
        refine take_mk 3 (v := ?vv3) rfl (by kernel_rfl) (by kernel_rfl) (by kernel_rfl) (fun _ _ _ h => h) (Or.inl ⟨by rfl, ?hy3⟩) (by assumption) ?_
        case hy3 => (intro wx hSw; (try dsimp only at hSw); obtain ⟨c0, c1⟩ := (HG.out.then hSw).box.cells; go_simp; try with_reducible rfl)
        try simp only [Act.put, List.setIfInBounds_toArray, List.set_cons_zero, List.set_cons_succ]
        refine take_mk 4 (v := ?vv4) rfl (by kernel_rfl) (by kernel_rfl) (by kernel_rfl) (fun _ _ _ h => h) (Or.inl ⟨by rfl, ?hy4⟩) (by assumption) ?_
        case hy4 => (intro wx hSw; (try dsimp only at hSw); obtain ⟨c0, c1⟩ := (HG.out.then hSw).box.cells; go_simp; try with_reducible rfl)
        try simp only [Act.put, List.setIfInBounds_toArray, List.set_cons_zero, List.set_cons_succ]
        refine wpAnyH_ready (rs := [2, 7]) (by kernel_rfl) (by simp) ?_
        refine cons_mk rfl (fun K hK => ?_) ?_
        · go_simp
          refine (clone_e (HG.out.then hHeld).both.drv HG.out.ok (by have := HG.out.few; omega)).mono ?_; rintro e w6 ⟨c, rfl, hd6, hb6⟩; go_simp
          refine hK.out _ _ ?_ (fun hHeld => ?_)
          · (first | exact hHeld | exact hHeld.trans (hb7.mono hHeld.size) | exact hHeld.trans (hb6.mono hHeld.size) | exact hHeld.alloc hHeld.size _ | (refine below_setRow hHeld ?_ _; first | exact Nat.le_refl _ | exact hb6.size | exact Nat.le_trans hb6.size hb7.size | (simp only [sz_a] ; exact Nat.le_trans hb6.size hb7.size)))
          clear hK K
          try simp only [Act.put, List.setIfInBounds_toArray, List.set_cons_zero, List.set_cons_succ]
          refine wpAnyH_ready (rs := [5, 7]) (by kernel_rfl) (by simp) ?_
          refine cons_mk rfl (fun K hK => ?_) ?_
          · go_simp
            refine (clone_ref (HG.out.then hHeld).both.ref HG.out.ok (by have := HG.out.few; omega)).mono ?_; rintro e w7 ⟨d, rfl, hr7, hb7⟩; go_simp
            refine hK.out _ _ ?_ (fun hHeld => ?_)
            · (first | exact hHeld | exact hHeld.trans (hb7.mono hHeld.size) | exact hHeld.trans (hb6.mono hHeld.size) | exact hHeld.alloc hHeld.size _ | (refine below_setRow hHeld ?_ _; first | exact Nat.le_refl _ | exact hb6.size | exact Nat.le_trans hb6.size hb7.size | (simp only [sz_a] ; exact Nat.le_trans hb6.size hb7.size)))
            clear hK K
            try simp only [Act.put, List.setIfInBounds_toArray, List.set_cons_zero, List.set_cons_succ]
            refine wpAnyH_ready (rs := [6, 7]) (by kernel_rfl) (by simp) ?_
            refine cons_mk rfl (fun K hK => ?_) ?_
            · go_simp
              refine hK.out _ _ ?_ (fun hHeld => ?_)
              · (first | exact hHeld | exact hHeld.trans (hb7.mono hHeld.size) | exact hHeld.trans (hb6.mono hHeld.size) | exact hHeld.alloc hHeld.size _ | (refine below_setRow hHeld ?_ _; first | exact Nat.le_refl _ | exact hb6.size | exact Nat.le_trans hb6.size hb7.size | (simp only [sz_a] ; exact Nat.le_trans hb6.size hb7.size)))
              clear hK K
              try simp only [Act.put, List.setIfInBounds_toArray, List.set_cons_zero, List.set_cons_succ]
              refine wpAnyH_ready (rs := [7]) (by kernel_rfl) (by simp) ?_
              refine cons_mk rfl (fun K hK => ?_) ?_
              · go_simp
                refine hK.out _ _ ?_ (fun hHeld => ?_)
                · (first | exact hHeld | exact hHeld.trans (hb7.mono hHeld.size) | exact hHeld.trans (hb6.mono hHeld.size) | exact hHeld.alloc hHeld.size _ | (refine below_setRow hHeld ?_ _; first | exact Nat.le_refl _ | exact hb6.size | exact Nat.le_trans hb6.size hb7.size | (simp only [sz_a] ; exact Nat.le_trans hb6.size hb7.size)))
                clear hK K
                try simp only [Act.put, List.setIfInBounds_toArray, List.set_cons_zero, List.set_cons_succ]
                refine wpAnyH_ready (rs := [8]) (by kernel_rfl) (by simp) ?_
                refine cons_mk rfl (fun K hK => ?_) ?_
                · (rw [if_pos (by rfl)]; have hY := hHeld; refine wp_store_row 37 (.tmp 12) (.tmp 50) rfl _ #[.pointer (some ⟨c, 0, none⟩), .pointer (some ⟨d, 0, none⟩)] rfl rfl 37 #[.pointer none, .pointer none] (by first | exact heap_alloc_new w7 _ | exact (hb7.block _ (by simp)).trans (heap_alloc_new w6 _) | exact (hb7.block _ (Nat.lt_of_lt_of_le (by simp) hb6.size)).trans ((hb6.block _ (by simp)).trans (heap_alloc_new w5.drew _))) Try.info_pair rfl (pair_one _ _) ?_)
                  refine hK.out _ _ ?_ (fun hHeld => ?_)
                  · (first | exact hHeld | exact hHeld.trans (hb7.mono hHeld.size) | exact hHeld.trans (hb6.mono hHeld.size) | exact hHeld.alloc hHeld.size _ | (refine below_setRow hHeld ?_ _; first | exact Nat.le_refl _ | exact hb6.size | exact Nat.le_trans hb6.size hb7.size | (simp only [sz_a] ; exact Nat.le_trans hb6.size hb7.size)))
                  clear hK K
                  try simp only [Act.put]
                  refine wpAnyH_done (by kernel_rfl) ?_ _
                  have hs5 := hY.size
                  have hs6 := hb6.size
                  have hs7 := hb7.size
                  try simp only [sz_a, sz_d] at hs5 hs6 hs7
                  go_wp2_with fail
                  go_meet
                  exact ⟨_, c, d, _, _, rfl, hid (twin_store HG.out (by first | exact hd6.below hb7 | exact (hd6.below ((Below.refl _ _).alloc (Nat.le_refl _) _)).below hb7 | exact (hd6.below hb7).below ((Below.refl _ _).alloc (Nat.le_refl _) _)) (by first | exact hr7 | exact hr7.below ((Below.refl _ _).alloc (Nat.le_refl _) _)) (fun k e1 e2 => by rcases e1 with e1 | e1; exact e1; rcases e2 with e2 | e2; exact e2; (first | omega | (simp only [sz_a, sz_d] at e1 e2; omega))) (fun k e => by rcases e with e | e; exact e.elim; (first | omega | (simp only [sz_a, sz_d] at e; omega))) (fun k e => by rcases e with e | e; exact e.elim; (first | omega | (simp only [sz_a, sz_d] at e; omega))) (by first | exact heap_alloc_new w7 _ | exact (hb7.block _ (by simp)).trans (heap_alloc_new w6 _) | exact (hb7.block _ (Nat.lt_of_lt_of_le (by simp) hb6.size)).trans ((hb6.block _ (by simp)).trans (heap_alloc_new w5.drew _))) (by (first | omega | (simp only [sz_a, sz_d]; omega))) (fun e => by rcases e with e | e; exact e.elim; (first | omega | (simp only [sz_a, sz_d] at e; omega))) (fun e => by rcases e with e | e; exact e.elim; (first | omega | (simp only [sz_a, sz_d] at e; omega))) hY)⟩
                exact AllReadyH.nil
              exact AllReadyH.nil
            refine cons_mk rfl (fun K hK => ?_) ?_
            · go_simp
              refine hK.out _ _ ?_ (fun hHeld => ?_)
              · (first | exact hHeld | exact hHeld.trans (hb7.mono hHeld.size) | exact hHeld.trans (hb6.mono hHeld.size) | exact hHeld.alloc hHeld.size _ | (refine below_setRow hHeld ?_ _; first | exact Nat.le_refl _ | exact hb6.size | exact Nat.le_trans hb6.size hb7.size | (simp only [sz_a] ; exact Nat.le_trans hb6.size hb7.size)))
              clear hK K
              try simp only [Act.put, List.setIfInBounds_toArray, List.set_cons_zero, List.set_cons_succ]
              refine wpAnyH_ready (rs := [6]) (by kernel_rfl) (by simp) ?_
              refine cons_mk rfl (fun K hK => ?_) ?_
              · go_simp
                refine hK.out _ _ ?_ (fun hHeld => ?_)
                · (first | exact hHeld | exact hHeld.trans (hb7.mono hHeld.size) | exact hHeld.trans (hb6.mono hHeld.size) | exact hHeld.alloc hHeld.size _ | (refine below_setRow hHeld ?_ _; first | exact Nat.le_refl _ | exact hb6.size | exact Nat.le_trans hb6.size hb7.size | (simp only [sz_a] ; exact Nat.le_trans hb6.size hb7.size)))
                clear hK K
                try simp only [Act.put, List.setIfInBounds_toArray, List.set_cons_zero, List.set_cons_succ]
                refine wpAnyH_ready (rs := [8]) (by kernel_rfl) (by simp) ?_
                refine cons_mk rfl (fun K hK => ?_) ?_
                · (rw [if_pos (by rfl)]; have hY := hHeld; refine wp_store_row 37 (.tmp 12) (.tmp 50) rfl _ #[.pointer (some ⟨c, 0, none⟩), .pointer (some ⟨d, 0, none⟩)] rfl rfl 37 #[.pointer none, .pointer none] (by first | exact heap_alloc_new w7 _ | exact (hb7.block _ (by simp)).trans (heap_alloc_new w6 _) | exact (hb7.block _ (Nat.lt_of_lt_of_le (by simp) hb6.size)).trans ((hb6.block _ (by simp)).trans (heap_alloc_new w5.drew _))) Try.info_pair rfl (pair_one _ _) ?_)
                  refine hK.out _ _ ?_ (fun hHeld => ?_)
                  · (first | exact hHeld | exact hHeld.trans (hb7.mono hHeld.size) | exact hHeld.trans (hb6.mono hHeld.size) | exact hHeld.alloc hHeld.size _ | (refine below_setRow hHeld ?_ _; first | exact Nat.le_refl _ | exact hb6.size | exact Nat.le_trans hb6.size hb7.size | (simp only [sz_a] ; exact Nat.le_trans hb6.size hb7.size)))
                  clear hK K
                  try simp only [Act.put]
                  refine wpAnyH_done (by kernel_rfl) ?_ _
                  have hs5 := hY.size
                  have hs6 := hb6.size
                  have hs7 := hb7.size
                  try simp only [sz_a, sz_d] at hs5 hs6 hs7
                  go_wp2_with fail
                  go_meet
                  exact ⟨_, c, d, _, _, rfl, hid (twin_store HG.out (by first | exact hd6.below hb7 | exact (hd6.below ((Below.refl _ _).alloc (Nat.le_refl _) _)).below hb7 | exact (hd6.below hb7).below ((Below.refl _ _).alloc (Nat.le_refl _) _)) (by first | exact hr7 | exact hr7.below ((Below.refl _ _).alloc (Nat.le_refl _) _)) (fun k e1 e2 => by rcases e1 with e1 | e1; exact e1; rcases e2 with e2 | e2; exact e2; (first | omega | (simp only [sz_a, sz_d] at e1 e2; omega))) (fun k e => by rcases e with e | e; exact e.elim; (first | omega | (simp only [sz_a, sz_d] at e; omega))) (fun k e => by rcases e with e | e; exact e.elim; (first | omega | (simp only [sz_a, sz_d] at e; omega))) (by first | exact heap_alloc_new w7 _ | exact (hb7.block _ (by simp)).trans (heap_alloc_new w6 _) | exact (hb7.block _ (Nat.lt_of_lt_of_le (by simp) hb6.size)).trans ((hb6.block _ (by simp)).trans (heap_alloc_new w5.drew _))) (by (first | omega | (simp only [sz_a, sz_d]; omega))) (fun e => by rcases e with e | e; exact e.elim; (first | omega | (simp only [sz_a, sz_d] at e; omega))) (fun e => by rcases e with e | e; exact e.elim; (first | omega | (simp only [sz_a, sz_d] at e; omega))) hY)⟩
                exact AllReadyH.nil
              exact AllReadyH.nil
            exact AllReadyH.nil
          refine cons_mk rfl (fun K hK => ?_) ?_
          · go_simp
            refine hK.out _ _ ?_ (fun hHeld => ?_)
            · (first | exact hHeld | exact hHeld.trans (hb7.mono hHeld.size) | exact hHeld.trans (hb6.mono hHeld.size) | exact hHeld.alloc hHeld.size _ | (refine below_setRow hHeld ?_ _; first | exact Nat.le_refl _ | exact hb6.size | exact Nat.le_trans hb6.size hb7.size | (simp only [sz_a] ; exact Nat.le_trans hb6.size hb7.size)))
            clear hK K
            try simp only [Act.put, List.setIfInBounds_toArray, List.set_cons_zero, List.set_cons_succ]
            refine wpAnyH_ready (rs := [5]) (by kernel_rfl) (by simp) ?_
            refine cons_mk rfl (fun K hK => ?_) ?_
            · go_simp
              refine (clone_ref (HG.out.then hHeld).both.ref HG.out.ok (by have := HG.out.few; omega)).mono ?_; rintro e w7 ⟨d, rfl, hr7, hb7⟩; go_simp
              refine hK.out _ _ ?_ (fun hHeld => ?_)
              · (first | exact hHeld | exact hHeld.trans (hb7.mono hHeld.size) | exact hHeld.trans (hb6.mono hHeld.size) | exact hHeld.alloc hHeld.size _ | (refine below_setRow hHeld ?_ _; first | exact Nat.le_refl _ | exact hb6.size | exact Nat.le_trans hb6.size hb7.size | (simp only [sz_a] ; exact Nat.le_trans hb6.size hb7.size)))
              clear hK K
              try simp only [Act.put, List.setIfInBounds_toArray, List.set_cons_zero, List.set_cons_succ]
              refine wpAnyH_ready (rs := [6]) (by kernel_rfl) (by simp) ?_
              refine cons_mk rfl (fun K hK => ?_) ?_
              · go_simp
                refine hK.out _ _ ?_ (fun hHeld => ?_)
                · (first | exact hHeld | exact hHeld.trans (hb7.mono hHeld.size) | exact hHeld.trans (hb6.mono hHeld.size) | exact hHeld.alloc hHeld.size _ | (refine below_setRow hHeld ?_ _; first | exact Nat.le_refl _ | exact hb6.size | exact Nat.le_trans hb6.size hb7.size | (simp only [sz_a] ; exact Nat.le_trans hb6.size hb7.size)))
                clear hK K
                try simp only [Act.put, List.setIfInBounds_toArray, List.set_cons_zero, List.set_cons_succ]
                refine wpAnyH_ready (rs := [8]) (by kernel_rfl) (by simp) ?_
                refine cons_mk rfl (fun K hK => ?_) ?_
                · (rw [if_pos (by rfl)]; have hY := hHeld; refine wp_store_row 37 (.tmp 12) (.tmp 50) rfl _ #[.pointer (some ⟨c, 0, none⟩), .pointer (some ⟨d, 0, none⟩)] rfl rfl 37 #[.pointer none, .pointer none] (by first | exact heap_alloc_new w7 _ | exact (hb7.block _ (by simp)).trans (heap_alloc_new w6 _) | exact (hb7.block _ (Nat.lt_of_lt_of_le (by simp) hb6.size)).trans ((hb6.block _ (by simp)).trans (heap_alloc_new w5.drew _))) Try.info_pair rfl (pair_one _ _) ?_)
                  refine hK.out _ _ ?_ (fun hHeld => ?_)
                  · (first | exact hHeld | exact hHeld.trans (hb7.mono hHeld.size) | exact hHeld.trans (hb6.mono hHeld.size) | exact hHeld.alloc hHeld.size _ | (refine below_setRow hHeld ?_ _; first | exact Nat.le_refl _ | exact hb6.size | exact Nat.le_trans hb6.size hb7.size | (simp only [sz_a] ; exact Nat.le_trans hb6.size hb7.size)))
                  clear hK K
                  try simp only [Act.put]
                  refine wpAnyH_done (by kernel_rfl) ?_ _
                  have hs5 := hY.size
                  have hs6 := hb6.size
                  have hs7 := hb7.size
                  try simp only [sz_a, sz_d] at hs5 hs6 hs7
                  go_wp2_with fail
                  go_meet
                  exact ⟨_, c, d, _, _, rfl, hid (twin_store HG.out (by first | exact hd6.below hb7 | exact (hd6.below ((Below.refl _ _).alloc (Nat.le_refl _) _)).below hb7 | exact (hd6.below hb7).below ((Below.refl _ _).alloc (Nat.le_refl _) _)) (by first | exact hr7 | exact hr7.below ((Below.refl _ _).alloc (Nat.le_refl _) _)) (fun k e1 e2 => by rcases e1 with e1 | e1; exact e1; rcases e2 with e2 | e2; exact e2; (first | omega | (simp only [sz_a, sz_d] at e1 e2; omega))) (fun k e => by rcases e with e | e; exact e.elim; (first | omega | (simp only [sz_a, sz_d] at e; omega))) (fun k e => by rcases e with e | e; exact e.elim; (first | omega | (simp only [sz_a, sz_d] at e; omega))) (by first | exact heap_alloc_new w7 _ | exact (hb7.block _ (by simp)).trans (heap_alloc_new w6 _) | exact (hb7.block _ (Nat.lt_of_lt_of_le (by simp) hb6.size)).trans ((hb6.block _ (by simp)).trans (heap_alloc_new w5.drew _))) (by (first | omega | (simp only [sz_a, sz_d]; omega))) (fun e => by rcases e with e | e; exact e.elim; (first | omega | (simp only [sz_a, sz_d] at e; omega))) (fun e => by rcases e with e | e; exact e.elim; (first | omega | (simp only [sz_a, sz_d] at e; omega))) hY)⟩
                exact AllReadyH.nil
              exact AllReadyH.nil
            exact AllReadyH.nil
          exact AllReadyH.nil
        refine cons_mk rfl (fun K hK => ?_) ?_
        · go_simp
          refine hK.out _ _ ?_ (fun hHeld => ?_)
          · (first | exact hHeld | exact hHeld.trans (hb7.mono hHeld.size) | exact hHeld.trans (hb6.mono hHeld.size) | exact hHeld.alloc hHeld.size _ | (refine below_setRow hHeld ?_ _; first | exact Nat.le_refl _ | exact hb6.size | exact Nat.le_trans hb6.size hb7.size | (simp only [sz_a] ; exact Nat.le_trans hb6.size hb7.size)))
          clear hK K
          try simp only [Act.put, List.setIfInBounds_toArray, List.set_cons_zero, List.set_cons_succ]
          refine wpAnyH_ready (rs := [2]) (by kernel_rfl) (by simp) ?_
          refine cons_mk rfl (fun K hK => ?_) ?_
          · go_simp
            refine (clone_e (HG.out.then hHeld).both.drv HG.out.ok (by have := HG.out.few; omega)).mono ?_; rintro e w6 ⟨c, rfl, hd6, hb6⟩; go_simp
            refine hK.out _ _ ?_ (fun hHeld => ?_)
            · (first | exact hHeld | exact hHeld.trans (hb7.mono hHeld.size) | exact hHeld.trans (hb6.mono hHeld.size) | exact hHeld.alloc hHeld.size _ | (refine below_setRow hHeld ?_ _; first | exact Nat.le_refl _ | exact hb6.size | exact Nat.le_trans hb6.size hb7.size | (simp only [sz_a] ; exact Nat.le_trans hb6.size hb7.size)))
            clear hK K
            try simp only [Act.put, List.setIfInBounds_toArray, List.set_cons_zero, List.set_cons_succ]
            refine wpAnyH_ready (rs := [5]) (by kernel_rfl) (by simp) ?_
            refine cons_mk rfl (fun K hK => ?_) ?_
            · go_simp
              refine (clone_ref (HG.out.then hHeld).both.ref HG.out.ok (by have := HG.out.few; omega)).mono ?_; rintro e w7 ⟨d, rfl, hr7, hb7⟩; go_simp
              refine hK.out _ _ ?_ (fun hHeld => ?_)
              · (first | exact hHeld | exact hHeld.trans (hb7.mono hHeld.size) | exact hHeld.trans (hb6.mono hHeld.size) | exact hHeld.alloc hHeld.size _ | (refine below_setRow hHeld ?_ _; first | exact Nat.le_refl _ | exact hb6.size | exact Nat.le_trans hb6.size hb7.size | (simp only [sz_a] ; exact Nat.le_trans hb6.size hb7.size)))
              clear hK K
              try simp only [Act.put, List.setIfInBounds_toArray, List.set_cons_zero, List.set_cons_succ]
              refine wpAnyH_ready (rs := [6]) (by kernel_rfl) (by simp) ?_
              refine cons_mk rfl (fun K hK => ?_) ?_
              · go_simp
                refine hK.out _ _ ?_ (fun hHeld => ?_)
                · (first | exact hHeld | exact hHeld.trans (hb7.mono hHeld.size) | exact hHeld.trans (hb6.mono hHeld.size) | exact hHeld.alloc hHeld.size _ | (refine below_setRow hHeld ?_ _; first | exact Nat.le_refl _ | exact hb6.size | exact Nat.le_trans hb6.size hb7.size | (simp only [sz_a] ; exact Nat.le_trans hb6.size hb7.size)))
                clear hK K
                try simp only [Act.put, List.setIfInBounds_toArray, List.set_cons_zero, List.set_cons_succ]
                refine wpAnyH_ready (rs := [8]) (by kernel_rfl) (by simp) ?_
                refine cons_mk rfl (fun K hK => ?_) ?_
                · (rw [if_pos (by rfl)]; have hY := hHeld; refine wp_store_row 37 (.tmp 12) (.tmp 50) rfl _ #[.pointer (some ⟨c, 0, none⟩), .pointer (some ⟨d, 0, none⟩)] rfl rfl 37 #[.pointer none, .pointer none] (by first | exact heap_alloc_new w7 _ | exact (hb7.block _ (by simp)).trans (heap_alloc_new w6 _) | exact (hb7.block _ (Nat.lt_of_lt_of_le (by simp) hb6.size)).trans ((hb6.block _ (by simp)).trans (heap_alloc_new w5.drew _))) Try.info_pair rfl (pair_one _ _) ?_)
                  refine hK.out _ _ ?_ (fun hHeld => ?_)
                  · (first | exact hHeld | exact hHeld.trans (hb7.mono hHeld.size) | exact hHeld.trans (hb6.mono hHeld.size) | exact hHeld.alloc hHeld.size _ | (refine below_setRow hHeld ?_ _; first | exact Nat.le_refl _ | exact hb6.size | exact Nat.le_trans hb6.size hb7.size | (simp only [sz_a] ; exact Nat.le_trans hb6.size hb7.size)))
                  clear hK K
                  try simp only [Act.put]
                  refine wpAnyH_done (by kernel_rfl) ?_ _
                  have hs5 := hY.size
                  have hs6 := hb6.size
                  have hs7 := hb7.size
                  try simp only [sz_a, sz_d] at hs5 hs6 hs7
                  go_wp2_with fail
                  go_meet
                  exact ⟨_, c, d, _, _, rfl, hid (twin_store HG.out (by first | exact hd6.below hb7 | exact (hd6.below ((Below.refl _ _).alloc (Nat.le_refl _) _)).below hb7 | exact (hd6.below hb7).below ((Below.refl _ _).alloc (Nat.le_refl _) _)) (by first | exact hr7 | exact hr7.below ((Below.refl _ _).alloc (Nat.le_refl _) _)) (fun k e1 e2 => by rcases e1 with e1 | e1; exact e1; rcases e2 with e2 | e2; exact e2; (first | omega | (simp only [sz_a, sz_d] at e1 e2; omega))) (fun k e => by rcases e with e | e; exact e.elim; (first | omega | (simp only [sz_a, sz_d] at e; omega))) (fun k e => by rcases e with e | e; exact e.elim; (first | omega | (simp only [sz_a, sz_d] at e; omega))) (by first | exact heap_alloc_new w7 _ | exact (hb7.block _ (by simp)).trans (heap_alloc_new w6 _) | exact (hb7.block _ (Nat.lt_of_lt_of_le (by simp) hb6.size)).trans ((hb6.block _ (by simp)).trans (heap_alloc_new w5.drew _))) (by (first | omega | (simp only [sz_a, sz_d]; omega))) (fun e => by rcases e with e | e; exact e.elim; (first | omega | (simp only [sz_a, sz_d] at e; omega))) (fun e => by rcases e with e | e; exact e.elim; (first | omega | (simp only [sz_a, sz_d] at e; omega))) hY)⟩
                exact AllReadyH.nil
              exact AllReadyH.nil
            exact AllReadyH.nil
          exact AllReadyH.nil
        exact AllReadyH.nil
      case rest =>
      obtain ⟨q2, c2, d2, r1, r2, rfl, HT⟩ := hcut
      clear HG
      obtain ⟨y0, y1⟩ := HT.out.g2.box.cells
      go_wp2_with fail
      refine (alike_any HT.out.g2.both HT.out.g2.ok).mono ?_
      rintro e w8 ⟨rfl, hb8⟩
      have HT8 := hid (HT.out.then hb8)
      clear hb8 HT y0 y1
      have HN0 := hid (show S = (l2.take 0).foldl Dv.step S from rfl)
      go_wp2_with fail
      go_loopw [13] (fun i wr => ∃ (k : Nat) (T : Dv) (s1 s2 : Own), k ≤ l2.length ∧ i = .int .i64 k ∧ Hid (T = (l2.take k).foldl Dv.step S) ∧ Hid (Twin w q q2 a b c2 d2 60 (60 + k) S T wr p1 p2 s1 s2)) (fun i _ => (l2.length - intOf i).toNat)
      case atStart => exact ⟨0, S, r1, r2, Nat.zero_le _, rfl, HN0, HT8⟩
      case round =>
      clear HT8 HN0
      obtain ⟨k, T, s1, s2, hk, rfl, HE, HT⟩ := hrel
      by_cases hlt : k < l2.length
      · obtain ⟨bb, off, rfl, hbl, hcell⟩ := HC2.out (by omega)
        have HCC := hid (fun (W : World) (hW : Below w.heap.size w W) (j : Nat) (u : Value) (hu : (l2.flatMap oprCells)[j]? = some u) => (hW.cell (p := ⟨bb, off + j, none⟩) hbl).trans (hcell j u hu))
        have HE2 := hid (show T.step l2[k] = (l2.take (k + 1)).foldl Dv.step S by rw [steps_succ S l2 k hlt, ← HE.out])
        clear hcell HE
        have hx0 : (0 : Int) ≤ (k : Int) := by omega
        have hx1 : (k : Int) < (l2.length : Int) := by omega
        go_upto_region 16 with fail
        have HGD := hid (HT.out.then (w' := wr.drew) ((Below.refl _ _).drew))
        clear HT
        go_region_held3 (fun w' => w'.cell? ⟨q2, 0, none⟩ = some (.pointer (some ⟨c2, 0, none⟩)) ∧ w'.cell? ⟨q2, 1, none⟩ = some (.pointer (some ⟨d2, 0, none⟩)) ∧ OpCells w' bb (off + k * 9) l2[k])
          (exact ⟨HGD.out.g2.box.cells.1, HGD.out.g2.box.cells.2, OpsAt.cells (HCC.out _ HGD.out.g2.below) k hlt⟩)
          ((go_at_call 31; refine (do_any HGD.out.g2.both HGD.out.g2.ok (by have := HGD.out.g2.few; omega) l2[k]).mono ?_; rintro e wx ⟨rfl, hmv⟩; obtain ⟨t1, t2, hg2⟩ := HGD.out.right l2[k] hmv; replace HGD := hid hg2; clear hg2 hmv))
        go_wp2
        go_roundw
        case rel => exact ⟨k + 1, _, _, _, by omega, by go_num, HE2, HGD⟩
        case measure => (simp [intOf]; try omega)
      · obtain rfl : k = l2.length := by omega
        have HE2 := hid (show T = l2.foldl Dv.step S by have := HE.out; rwa [List.take_length] at this)
        clear HE hk hlt
        obtain ⟨x0, x1⟩ := HT.out.g1.box.cells
        go_wp2_with fail
        refine (alike_any HT.out.g1.both HT.out.g1.ok).mono ?_
        rintro e w8 ⟨rfl, hb8⟩
        have HT8 := hid (HT.out.then hb8)
        clear hb8 HT x0 x1
        obtain ⟨y0, y1⟩ := HT8.out.g2.box.cells
        go_wp2_with fail
        refine (alike_any HT8.out.g2.both HT8.out.g2.ok).mono ?_
        rintro e w9 ⟨rfl, hb9⟩
        have HT9 := hid (HT8.out.then hb9)
        clear hb9 HT8 y0 y1
        have HN0 := hid (show S = (l2.take 0).foldl Dv.step S from rfl)
        go_wp2_with fail
        go_loopw [14] (fun i wr => ∃ (k : Nat) (R : Dv) (t1 t2 : Own), k ≤ l2.length ∧ i = .int .i64 k ∧ Hid (R = (l2.take k).foldl Dv.step S) ∧ Hid (Twin w q q2 a b c2 d2 (60 + k) (60 + l2.length) R T wr t1 t2 s1 s2)) (fun i _ => (l2.length - intOf i).toNat)
        case atStart => exact ⟨0, S, p1, p2, Nat.zero_le _, rfl, HN0, HT9⟩
        case round =>
        clear HT9 HN0
        obtain ⟨k, R, t1, t2, hk, rfl, HE, HT⟩ := hrel
        by_cases hlt : k < l2.length
        · obtain ⟨bb, off, rfl, hbl, hcell⟩ := HC2.out (by omega)
          have HCC := hid (fun (W : World) (hW : Below w.heap.size w W) (j : Nat) (u : Value) (hu : (l2.flatMap oprCells)[j]? = some u) => (hW.cell (p := ⟨bb, off + j, none⟩) hbl).trans (hcell j u hu))
          have HE3 := hid (show R.step l2[k] = (l2.take (k + 1)).foldl Dv.step S by rw [steps_succ S l2 k hlt, ← HE.out])
          clear hcell HE
          have hx0 : (0 : Int) ≤ (k : Int) := by omega
          have hx1 : (k : Int) < (l2.length : Int) := by omega
          go_upto_region 22 with fail
          have HGD := hid (HT.out.then (w' := wr.drew) ((Below.refl _ _).drew))
          clear HT
          go_region_held3 (fun w' => w'.cell? ⟨q, 0, none⟩ = some (.pointer (some ⟨a, 0, none⟩)) ∧ w'.cell? ⟨q, 1, none⟩ = some (.pointer (some ⟨b, 0, none⟩)) ∧ OpCells w' bb (off + k * 9) l2[k])
            (exact ⟨HGD.out.g1.box.cells.1, HGD.out.g1.box.cells.2, OpsAt.cells (HCC.out _ HGD.out.g1.below) k hlt⟩)
            ((go_at_call 31; refine (do_any HGD.out.g1.both HGD.out.g1.ok (by have := HGD.out.g1.few; omega) l2[k]).mono ?_; rintro e wx ⟨rfl, hmv⟩; obtain ⟨u1, u2, hg2⟩ := HGD.out.left l2[k] hmv; replace HGD := hid hg2; clear hg2 hmv))
          go_wp2
          go_roundw
          case rel => exact ⟨k + 1, _, _, _, by omega, by go_num, HE3, HGD⟩
          case measure => (simp [intOf]; try omega)
        · obtain rfl : k = l2.length := by omega
          have hRT : R = T := by have := HE.out; rw [List.take_length] at this; rw [this, HE2.out]
          subst hRT
          clear HE HE2 hk hlt
          go_upto_region 24 with fail
          have HT0 := hid (HT.out.then (w' := wr.drew) ((Below.refl _ _).drew))
          refine wp_region_held_drew (S := (fun w' => w'.cell? ⟨q, 0, none⟩ = some (.pointer (some ⟨a, 0, none⟩)) ∧ w'.cell? ⟨q, 1, none⟩ = some (.pointer (some ⟨b, 0, none⟩)) ∧ w'.cell? ⟨q2, 0, none⟩ = some (.pointer (some ⟨c2, 0, none⟩)))) (by kernel_rfl) ?_ (fun hHeld => ?_)
          · exact HT0.out.keep
          refine wpAnyH_ready (rs := [0]) (by kernel_rfl) (by simp) ?_
          refine cons_mk rfl (fun K hK => ?_) ?_
          · go_simp
            refine (awake26 _).mono ?_; rintro e wA ⟨rfl, hbA⟩; have HTA := hid (HT0.out.then hbA); go_simp
            refine hK.out _ _ ?_ (fun hHeld => ?_)
            · (first | exact hHeld | exact HTG.out.keep | exact HTF.out.keep | exact HTE.out.keep | exact HTD.out.keep | exact HTC.out.keep | exact HTB.out.keep | exact HTA.out.keep)
            clear hK K
            try simp only [Act.put, List.setIfInBounds_toArray, List.set_cons_zero, List.set_cons_succ]
            refine take_mk 1 (v := ?vv201) rfl (by kernel_rfl) (by kernel_rfl) (by kernel_rfl) (fun _ _ _ h => h) (Or.inl ⟨by rfl, ?hy201⟩) (by assumption) ?_
            case hy201 => (intro wx hSw; (try dsimp only at hSw); obtain ⟨c0, c1, c3⟩ := hSw; go_simp; try with_reducible rfl)
            try simp only [Act.put, List.setIfInBounds_toArray, List.set_cons_zero, List.set_cons_succ]
            refine take_mk 2 (v := ?vv202) rfl (by kernel_rfl) (by kernel_rfl) (by kernel_rfl) (fun _ _ _ h => h) (Or.inl ⟨by rfl, ?hy202⟩) (by assumption) ?_
            case hy202 => (intro wx hSw; (try dsimp only at hSw); obtain ⟨c0, c1, c3⟩ := hSw; go_simp; try with_reducible rfl)
            try simp only [Act.put, List.setIfInBounds_toArray, List.set_cons_zero, List.set_cons_succ]
            refine wpAnyH_ready (rs := [3]) (by kernel_rfl) (by simp) ?_
            refine cons_mk rfl (fun K hK => ?_) ?_
            · go_simp
              refine (alike_any HTA.out.g1.both HTA.out.g1.ok).mono ?_; rintro e wB ⟨rfl, hbB⟩; have HTB := hid (HTA.out.then hbB); go_simp
              refine hK.out _ _ ?_ (fun hHeld => ?_)
              · (first | exact hHeld | exact HTG.out.keep | exact HTF.out.keep | exact HTE.out.keep | exact HTD.out.keep | exact HTC.out.keep | exact HTB.out.keep | exact HTA.out.keep)
              clear hK K
              try simp only [Act.put, List.setIfInBounds_toArray, List.set_cons_zero, List.set_cons_succ]
              refine take_mk 4 (v := ?vv203) rfl (by kernel_rfl) (by kernel_rfl) (by kernel_rfl) (fun _ _ _ h => h) (Or.inl ⟨by rfl, ?hy203⟩) (by assumption) ?_
              case hy203 => (intro wx hSw; (try dsimp only at hSw); obtain ⟨c0, c1, c3⟩ := hSw; go_simp; try with_reducible rfl)
              try simp only [Act.put, List.setIfInBounds_toArray, List.set_cons_zero, List.set_cons_succ]
              refine take_mk 5 (v := ?vv204) rfl (by kernel_rfl) (by kernel_rfl) (by kernel_rfl) (fun _ _ _ h => h) (Or.inl ⟨by rfl, ?hy204⟩) (by assumption) ?_
              case hy204 => (intro wx hSw; (try dsimp only at hSw); obtain ⟨c0, c1, c3⟩ := hSw; go_simp; try with_reducible rfl)
              try simp only [Act.put, List.setIfInBounds_toArray, List.set_cons_zero, List.set_cons_succ]
              refine take_mk 6 (v := ?vv205) rfl (by kernel_rfl) (by kernel_rfl) (by kernel_rfl) (fun _ _ _ h => h) (Or.inl ⟨by rfl, ?hy205⟩) (by assumption) ?_
              case hy205 => (intro wx hSw; (try dsimp only at hSw); obtain ⟨c0, c1, c3⟩ := hSw; go_simp; try with_reducible rfl)
              try simp only [Act.put, List.setIfInBounds_toArray, List.set_cons_zero, List.set_cons_succ]
              refine take_mk 7 (v := ?vv206) rfl (by kernel_rfl) (by kernel_rfl) (by kernel_rfl) (fun _ _ _ h => h) (Or.inl ⟨by rfl, ?hy206⟩) (by assumption) ?_
              case hy206 => (intro wx hSw; (try dsimp only at hSw); obtain ⟨c0, c1, c3⟩ := hSw; go_simp; try with_reducible rfl)
              try simp only [Act.put, List.setIfInBounds_toArray, List.set_cons_zero, List.set_cons_succ]
              refine take_mk 9 (v := ?vv207) rfl (by kernel_rfl) (by kernel_rfl) (by kernel_rfl) (fun _ _ _ h => h) (Or.inl ⟨by rfl, ?hy207⟩) (by assumption) ?_
              case hy207 => (intro wx hSw; (try dsimp only at hSw); obtain ⟨c0, c1, c3⟩ := hSw; go_simp; try with_reducible rfl)
              try simp only [Act.put, List.setIfInBounds_toArray, List.set_cons_zero, List.set_cons_succ]
              refine take_mk 10 (v := ?vv208) rfl (by kernel_rfl) (by kernel_rfl) (by kernel_rfl) (fun _ _ _ h => h) (Or.inl ⟨by rfl, ?hy208⟩) (by assumption) ?_
              case hy208 => (intro wx hSw; (try dsimp only at hSw); obtain ⟨c0, c1, c3⟩ := hSw; go_simp; try with_reducible rfl)
              try simp only [Act.put, List.setIfInBounds_toArray, List.set_cons_zero, List.set_cons_succ]
              refine wpAnyH_ready (rs := [8]) (by kernel_rfl) (by simp) ?_
              refine cons_mk rfl (fun K hK => ?_) ?_
              · go_simp
                refine (platters_e HTB.out.g1.both.drv HTB.out.g1.ok).mono ?_; rintro e wC ⟨pv1, rfl, hx, hbC⟩; have HP1 := hid hx; have HTC := hid (HTB.out.then hbC); clear hx; go_simp
                refine hK.out _ _ ?_ (fun hHeld => ?_)
                · (first | exact hHeld | exact HTG.out.keep | exact HTF.out.keep | exact HTE.out.keep | exact HTD.out.keep | exact HTC.out.keep | exact HTB.out.keep | exact HTA.out.keep)
                clear hK K
                try simp only [Act.put, List.setIfInBounds_toArray, List.set_cons_zero, List.set_cons_succ]
                refine wpAnyH_ready (rs := [11]) (by kernel_rfl) (by simp) ?_
                refine cons_mk rfl (fun K hK => ?_) ?_
                · go_simp
                  refine (platters_e HTC.out.g2.both.drv HTC.out.g2.ok).mono ?_; rintro e wD ⟨pv2, rfl, hx, hbD⟩; have HP2 := hid hx; have HP3 := hid (OwnSl.below HP1.out hbD); have HTD := hid (HTC.out.then hbD); clear hx; go_simp
                  refine hK.out _ _ ?_ (fun hHeld => ?_)
                  · (first | exact hHeld | exact HTG.out.keep | exact HTF.out.keep | exact HTE.out.keep | exact HTD.out.keep | exact HTC.out.keep | exact HTB.out.keep | exact HTA.out.keep)
                  clear hK K
                  try simp only [Act.put, List.setIfInBounds_toArray, List.set_cons_zero, List.set_cons_succ]
                  refine wpAnyH_ready (rs := [12]) (by kernel_rfl) (by simp) ?_
                  refine cons_mk rfl (fun K hK => ?_) ?_
                  · go_simp
                    refine (same_b HP3.out HP2.out true (by simp)).mono ?_; rintro e wE ⟨rfl, hbE⟩; have HTE := hid (HTD.out.then hbE); go_simp
                    refine hK.out _ _ ?_ (fun hHeld => ?_)
                    · (first | exact hHeld | exact HTG.out.keep | exact HTF.out.keep | exact HTE.out.keep | exact HTD.out.keep | exact HTC.out.keep | exact HTB.out.keep | exact HTA.out.keep)
                    clear hK K
                    try simp only [Act.put, List.setIfInBounds_toArray, List.set_cons_zero, List.set_cons_succ]
                    refine take_mk 13 (v := ?vv209) rfl (by kernel_rfl) (by kernel_rfl) (by kernel_rfl) (fun _ _ _ h => h) (Or.inl ⟨by rfl, ?hy209⟩) (by assumption) ?_
                    case hy209 => (intro wx hSw; (try dsimp only at hSw); obtain ⟨c0, c1, c3⟩ := hSw; go_simp; try with_reducible rfl)
                    try simp only [Act.put, List.setIfInBounds_toArray, List.set_cons_zero, List.set_cons_succ]
                    refine take_mk 14 (v := ?vv210) rfl (by kernel_rfl) (by kernel_rfl) (by kernel_rfl) (fun _ _ _ h => h) (Or.inl ⟨by rfl, ?hy210⟩) (by assumption) ?_
                    case hy210 => (intro wx hSw; (try dsimp only at hSw); obtain ⟨c0, c1, c3⟩ := hSw; go_simp; try with_reducible rfl)
                    try simp only [Act.put, List.setIfInBounds_toArray, List.set_cons_zero, List.set_cons_succ]
                    refine take_mk 15 (v := ?vv211) rfl (by kernel_rfl) (by kernel_rfl) (by kernel_rfl) (fun _ _ _ h => h) (Or.inl ⟨by rfl, ?hy211⟩) (by assumption) ?_
                    case hy211 => (intro wx hSw; (try dsimp only at hSw); obtain ⟨c0, c1, c3⟩ := hSw; go_simp; try with_reducible rfl)
                    try simp only [Act.put, List.setIfInBounds_toArray, List.set_cons_zero, List.set_cons_succ]
                    refine take_mk 16 (v := ?vv212) rfl (by kernel_rfl) (by kernel_rfl) (by kernel_rfl) (fun _ _ _ h => h) (Or.inl ⟨by rfl, ?hy212⟩) (by assumption) ?_
                    case hy212 => (intro wx hSw; (try dsimp only at hSw); obtain ⟨c0, c1, c3⟩ := hSw; go_simp; try with_reducible rfl)
                    try simp only [Act.put, List.setIfInBounds_toArray, List.set_cons_zero, List.set_cons_succ]
                    refine take_mk 18 (v := ?vv213) rfl (by kernel_rfl) (by kernel_rfl) (by kernel_rfl) (fun _ _ _ h => h) (Or.inl ⟨by rfl, ?hy213⟩) (by assumption) ?_
                    case hy213 => (intro wx hSw; (try dsimp only at hSw); obtain ⟨c0, c1, c3⟩ := hSw; go_simp; try with_reducible rfl)
                    try simp only [Act.put, List.setIfInBounds_toArray, List.set_cons_zero, List.set_cons_succ]
                    refine take_mk 19 (v := ?vv214) rfl (by kernel_rfl) (by kernel_rfl) (by kernel_rfl) (fun _ _ _ h => h) (Or.inl ⟨by rfl, ?hy214⟩) (by assumption) ?_
                    case hy214 => (intro wx hSw; (try dsimp only at hSw); obtain ⟨c0, c1, c3⟩ := hSw; go_simp; try with_reducible rfl)
                    try simp only [Act.put, List.setIfInBounds_toArray, List.set_cons_zero, List.set_cons_succ]
                    refine wpAnyH_ready (rs := [17]) (by kernel_rfl) (by simp) ?_
                    refine cons_mk rfl (fun K hK => ?_) ?_
                    · go_simp
                      refine (status_e HTE.out.g1.both.drv HTE.out.g1.ok).mono ?_; rintro e wF ⟨rfl, hbF⟩; have HTF := hid (HTE.out.then hbF); go_simp
                      refine hK.out _ _ ?_ (fun hHeld => ?_)
                      · (first | exact hHeld | exact HTG.out.keep | exact HTF.out.keep | exact HTE.out.keep | exact HTD.out.keep | exact HTC.out.keep | exact HTB.out.keep | exact HTA.out.keep)
                      clear hK K
                      try simp only [Act.put, List.setIfInBounds_toArray, List.set_cons_zero, List.set_cons_succ]
                      refine wpAnyH_ready (rs := [20]) (by kernel_rfl) (by simp) ?_
                      refine cons_mk rfl (fun K hK => ?_) ?_
                      · go_simp
                        refine (status_e HTF.out.g2.both.drv HTF.out.g2.ok).mono ?_; rintro e wG ⟨rfl, hbG⟩; have HTG := hid (HTF.out.then hbG); go_simp
                        refine hK.out _ _ ?_ (fun hHeld => ?_)
                        · (first | exact hHeld | exact HTG.out.keep | exact HTF.out.keep | exact HTE.out.keep | exact HTD.out.keep | exact HTC.out.keep | exact HTB.out.keep | exact HTA.out.keep)
                        clear hK K
                        try simp only [Act.put, List.setIfInBounds_toArray, List.set_cons_zero, List.set_cons_succ]
                        refine take_mk 21 (v := ?vv215) rfl (by kernel_rfl) (by kernel_rfl) (by kernel_rfl) (fun _ _ _ h => h) (Or.inl ⟨by rfl, ?hy215⟩) (by assumption) ?_
                        case hy215 => (intro wx hSw; (try dsimp only at hSw); obtain ⟨c0, c1, c3⟩ := hSw; go_simp; try with_reducible rfl)
                        try simp only [Act.put, List.setIfInBounds_toArray, List.set_cons_zero, List.set_cons_succ]
                        refine take_mk 22 (v := ?vv216) rfl (by kernel_rfl) (by kernel_rfl) (by kernel_rfl) (fun _ _ _ h => h) (Or.inl ⟨by rfl, ?hy216⟩) (by assumption) ?_
                        case hy216 => (intro wx hSw; (try dsimp only at hSw); obtain ⟨c0, c1, c3⟩ := hSw; go_simp; try with_reducible rfl)
                        try simp only [Act.put, List.setIfInBounds_toArray, List.set_cons_zero, List.set_cons_succ]
                        refine take_mk 23 (v := ?vv217) rfl (by kernel_rfl) (by kernel_rfl) (by kernel_rfl) (fun _ _ _ h => h) (Or.inl ⟨by rfl, ?hy217⟩) (by assumption) ?_
                        case hy217 => (intro wx hSw; (try dsimp only at hSw); obtain ⟨c0, c1, c3⟩ := hSw; go_simp; try with_reducible rfl)
                        try simp only [Act.put, List.setIfInBounds_toArray, List.set_cons_zero, List.set_cons_succ]
                        refine wpAnyH_done (by kernel_rfl) ?_ _
                        go_wp2
                        go_ret
                        exact ⟨by simp, HTG.out.g1.below⟩
                      exact AllReadyH.nil
                    exact AllReadyH.nil
                  exact AllReadyH.nil
                exact AllReadyH.nil
              exact AllReadyH.nil
            exact AllReadyH.nil
          exact AllReadyH.nil
end Go.Proofs.Ytiodfnjblimmbaa
