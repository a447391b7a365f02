/- ScrubOrders. -/
import Derived.Test.YtegekmdechcikaaS22
namespace Go.Proofs.Ytegekmdechcikaa
open Go Go.RowKit Go.Sort

abbrev PcAt (w : World) (b : Nat) (p : Pc) : Prop := Piece w b p.vol p.frag p.stripe p.gen p.ver p.data 23
theorem sz_a (w : World) (o : Obj) : (w.alloc o).heap.size = w.heap.size + 1 := by simp
theorem sz_d (w : World) : w.drew.heap.size = w.heap.size := rfl
theorem zero_at {w : World} {b : Nat} (h : b = w.heap.size) : Piece (w.alloc (.cells #[.int .i64 0, .int .i64 0, .int .i64 0, .int .i64 0, .int .i64 0, .string { data := #[] }] 23)) b 0 0 0 0 0 { data := #[] } 23 := h ▸ zero_piece w
theorem piece_drew {w : World} {b : Nat} {v f s g ve : Int} {d : ByteArray} {t : TypeId} (h : Piece w b v f s g ve d t) : Piece w.drew b v f s g ve d t := h
theorem vals_drew {w : World} {b : Nat} {l : List Value} (h : ValsAt w b l) : ValsAt w.drew b l := ⟨h.lt, h.cell, h.free⟩
theorem pc_vals {w : World} {b : Nat} {p : Pc} (h : PcAt w b p) : ValsAt w b p.cells := by
  refine ⟨h.lt, fun k hk => ?_, fun k _ => free_block h k⟩
  rw [cell_block h]
  rw [← List.getElem?_eq_getElem hk]
  simp
theorem pc_cells {w : World} {b : Nat} {p : Pc} (h : ValsAt w b p.cells) : w.cell? ⟨b, 0, none⟩ = some (.int .i64 p.vol) ∧ w.cell? ⟨b, 1, none⟩ = some (.int .i64 p.frag) ∧ w.cell? ⟨b, 2, none⟩ = some (.int .i64 p.stripe) ∧ w.cell? ⟨b, 3, none⟩ = some (.int .i64 p.gen) ∧ w.cell? ⟨b, 4, none⟩ = some (.int .i64 p.ver) ∧ w.cell? ⟨b, 5, none⟩ = some (.string p.data) :=
  ⟨h.cell 0 (by simp), h.cell 1 (by simp), h.cell 2 (by simp), h.cell 3 (by simp), h.cell 4 (by simp), h.cell 5 (by simp)⟩
/-- What the last test reads. -/
structure Last (w0 : World) (g off : Nat) (fd : Int) (b c : Nat) (p q : Pc) (w : World) : Prop where
  i0 : w.cell? ⟨g, off, none⟩ = some (.int .i64 fd)
  i1 : w.cell? ⟨g, off + 1, none⟩ = some (.int .i64 2)
  lt : g < w.heap.size
  pb : ValsAt w b p.cells
  qc : ValsAt w c q.cells
  below : Below w0.heap.size w0 w
theorem Last.then {w0 w w' : World} {g off : Nat} {fd : Int} {b c : Nat} {p q : Pc} (h : Last w0 g off fd b c p q w) (hb : Below w.heap.size w w') : Last w0 g off fd b c p q w' :=
  ⟨(hb.cell (p := ⟨g, off, none⟩) h.lt).trans h.i0, (hb.cell (p := ⟨g, off + 1, none⟩) h.lt).trans h.i1, Nat.lt_of_lt_of_le h.lt hb.size, h.pb.below hb h.pb.lt, h.qc.below hb h.qc.lt, h.below.trans (hb.mono h.below.size)⟩
theorem cell_lt {w : World} {a : Addr} {v : Value} (h : w.cell? a = some v) : a.block < w.heap.size := by
  rcases Nat.lt_or_ge a.block w.heap.size with hl | hl
  · exact hl
  · have : w.heap[a.block]? = none := Array.getElem?_eq_none hl
    simp [World.cell?, this] at h
set_option maxRecDepth 100000 in
set_option maxHeartbeats 4000000 in
theorem law_orders (x y : Pc) (wh : Int) (w : World) (hd : x.data.size ≤ maxLen) (hd2 : y.data.size ≤ maxLen) :
    Calls Try.prog 3 #[x.val, y.val, .int .i64 wh] w fun e w' => e = .returned (.bool true) ∧ Below w.heap.size w w' := by
  have HD := hid hd
  have HE := hid hd2
  clear hd hd2
  have hp1 := hid ((piece_new w x.vol x.frag x.stripe x.gen x.ver x.data 23).alloc (.cells y.cells.toArray 23))
  have hq1 := hid (piece_new (w.alloc (.cells x.cells.toArray 23)) y.vol y.frag y.stripe y.gen y.ver y.data 23)
  have hb1 := hid (((Below.refl w.heap.size w).alloc (Nat.le_refl _) (.cells x.cells.toArray 23)).alloc (by simp) (.cells y.cells.toArray 23))
  rw [show (w.alloc (.cells x.cells.toArray 23)).heap.size = w.heap.size + 1 by simp] at hq1
  go_enter Try.func3, Try.ntmps3
  go_upto_region 1 with fail
  generalize (w.alloc (.cells x.cells.toArray 23)).alloc (.cells y.cells.toArray 23) = w0 at *
  have hl0 := hq1.out.lt
  go_wp2_with fail
  refine (new_e 2 2 w0 (by omega) (by omega) (by omega)).mono ?_
  rintro e w1 ⟨a, rfl, hd1, hb2⟩
  have HDR := hid hd1
  have HA1 := hid (above_new (w := w0) (w' := w1) (Nat.le_refl _))
  have HPX := hid (hp1.out.below hb2 (by omega))
  have HPY := hid (hq1.out.below hb2 hl0)
  have hw1 := hid (hb1.out)
  have HB01 := hid hb2
  have hl1 : w.heap.size + 1 < w1.heap.size := Nat.lt_of_lt_of_le hl0 hb2.size
  clear hd1 hb2 hp1 hq1 hb1 hl0
  generalize Grow NoOwn w0 w1 = o at *
  go_upto_region 4 with fail
  go_cut [9, 10] (fun s9 s10 wx => ∃ b c : Nat, s9 = .pointer (some ⟨b, 0, none⟩) ∧ s10 = .pointer (some ⟨c, 0, none⟩) ∧ b ≠ c ∧ w1.heap.size ≤ b ∧ w1.heap.size ≤ c ∧ PcAt wx b (nearP x) ∧ PcAt wx c (nearP y) ∧ Below w1.heap.size w1 wx)
  case first =>
    refine wp_region_held_drew (S := (fun w' => w1.heap.size ≤ w'.heap.size ∧ Below w1.heap.size w1 w' ∧ PcAt w' w.heap.size x ∧ PcAt w' (w.heap.size + 1) y)) (by kernel_rfl) ?_ (fun hHeld => ?_)
    · exact ⟨Nat.le_refl _, (Below.refl _ _).drew, HPX.out, HPY.out⟩
    refine take_mk 0 (v := ?vv1) rfl (by kernel_rfl) (by kernel_rfl) (by kernel_rfl) (fun _ _ _ h => h) (Or.inl ⟨by rfl, ?hy1⟩) (by assumption) ?_
    case hy1 => (intro wx hSw; (try dsimp only at hSw); obtain ⟨_, _, xp, xq⟩ := hSw; obtain ⟨c0, c1, c2, c3, c4, c5⟩ := xp.cells; obtain ⟨r0, r1, r2, r3, r4, r5⟩ := xq.cells; go_simp; try with_reducible rfl)
    try simp only [Act.put, List.setIfInBounds_toArray, List.set_cons_zero, List.set_cons_succ]
    refine take_mk 2 (v := ?vv2) rfl (by kernel_rfl) (by kernel_rfl) (by kernel_rfl) (fun _ _ _ h => h) (Or.inl ⟨by rfl, ?hy2⟩) (by assumption) ?_
    case hy2 => (intro wx hSw; (try dsimp only at hSw); obtain ⟨_, _, xp, xq⟩ := hSw; obtain ⟨c0, c1, c2, c3, c4, c5⟩ := xp.cells; obtain ⟨r0, r1, r2, r3, r4, r5⟩ := xq.cells; go_simp; try with_reducible rfl)
    try simp only [Act.put, List.setIfInBounds_toArray, List.set_cons_zero, List.set_cons_succ]
    refine wpAnyH_ready (rs := [1, 4, 5]) (by kernel_rfl) (by simp) ?_
    refine cons_mk rfl (fun K hK => ?_) ?_
    · go_simp
      refine (near_p x _ HD.out).mono ?_; rintro e wx ⟨rfl, hbA⟩; have hzA := hbA.size; (try simp at hzA); go_simp
      refine hK.out _ _ ?_ (fun hHeld => ?_)
      · (obtain ⟨al, ab, ap, aq⟩ := hHeld; exact ⟨Nat.le_trans al hbA.size, ab.trans (hbA.mono (by omega)), ap.below hbA (by omega), aq.below hbA (by omega)⟩)
      clear hK K
      try simp only [Act.put, List.setIfInBounds_toArray, List.set_cons_zero, List.set_cons_succ]
      refine wpAnyH_ready (rs := [3, 4, 5]) (by kernel_rfl) (by simp) ?_
      refine cons_mk rfl (fun K hK => ?_) ?_
      · go_simp
        refine (near_p y _ HE.out).mono ?_; rintro e wx ⟨rfl, hbB⟩; have hzB := hbB.size; (try simp at hzB); go_simp
        refine hK.out _ _ ?_ (fun hHeld => ?_)
        · (obtain ⟨al, ab, ap, aq⟩ := hHeld; exact ⟨Nat.le_trans al hbB.size, ab.trans (hbB.mono (by omega)), ap.below hbB (by omega), aq.below hbB (by omega)⟩)
        clear hK K
        try simp only [Act.put, List.setIfInBounds_toArray, List.set_cons_zero, List.set_cons_succ]
        refine wpAnyH_ready (rs := [4, 5]) (by kernel_rfl) (by simp) ?_
        refine cons_mk rfl (fun K hK => ?_) ?_
        · go_simp
          refine hK.out _ _ ?_ (fun hHeld => ?_)
          · (obtain ⟨al, ab, ap, aq⟩ := hHeld; exact ⟨by first | (simp; done) | (simp; omega), ab.alloc (by omega) _, ap.alloc _, aq.alloc _⟩)
          clear hK K
          try simp only [Act.put, List.setIfInBounds_toArray, List.set_cons_zero, List.set_cons_succ]
          refine wpAnyH_ready (rs := [5]) (by kernel_rfl) (by simp) ?_
          refine cons_mk rfl (fun K hK => ?_) ?_
          · go_simp
            refine hK.out _ _ ?_ (fun hHeld => ?_)
            · (obtain ⟨al, ab, ap, aq⟩ := hHeld; exact ⟨by first | (simp; done) | (simp; omega), ab.alloc (by omega) _, ap.alloc _, aq.alloc _⟩)
            clear hK K
            try simp only [Act.put, List.setIfInBounds_toArray, List.set_cons_zero, List.set_cons_succ]
            refine wpAnyH_ready (rs := [6]) (by kernel_rfl) (by simp) ?_
            refine cons_mk rfl (fun K hK => ?_) ?_
            · (rw [if_pos (by rfl)]; refine wp_store_piece 23 (.tmp 9) (.tmp 25) rfl _ _ _ _ _ _ _ rfl rfl (v' := 0) (f' := 0) (s' := 0) (g' := 0) (ve' := 0) (d' := { data := #[] }) (t := 23) (Piece.alloc (zero_at (by (first | omega | (simp only [sz_a]; done) | (simp only [sz_a]; omega) | (simp only [sz_d]; omega) | (simp only [sz_d, sz_a]; done) | (simp only [sz_d, sz_a]; omega)))) _) piece_size ?_; intro wq hpq hgr)
              refine hK.out _ _ ?_ (fun hHeld => ?_)
              · (obtain ⟨al, ab, ap, aq⟩ := hHeld; exact ⟨Nat.le_trans al hgr.size, below_grown ab hgr (by omega) (by omega), ap.grown hgr (by omega), aq.grown hgr (by omega)⟩)
              clear hK K
              try simp only [Act.put]
              refine wpAnyH_ready (rs := [7]) (by kernel_rfl) (by simp) ?_
              refine cons_mk rfl (fun K hK => ?_) ?_
              · (rw [if_pos (by rfl)]; refine wp_store_piece 23 (.tmp 10) (.tmp 27) rfl _ _ _ _ _ _ _ rfl rfl (v' := 0) (f' := 0) (s' := 0) (g' := 0) (ve' := 0) (d' := { data := #[] }) (t := 23) (Piece.grown (zero_at (by (first | omega | (simp only [sz_a]; done) | (simp only [sz_a]; omega) | (simp only [sz_d]; omega) | (simp only [sz_d, sz_a]; done) | (simp only [sz_d, sz_a]; omega)))) hgr (by (first | omega | (simp only [sz_a]; done) | (simp only [sz_a]; omega) | (simp only [sz_d]; omega) | (simp only [sz_d, sz_a]; done) | (simp only [sz_d, sz_a]; omega)))) piece_size ?_; intro wq2 hpq2 hgr2)
                refine hK.out _ _ ?_ (fun hHeld => ?_)
                · (obtain ⟨al, ab, ap, aq⟩ := hHeld; exact ⟨Nat.le_trans al hgr2.size, below_grown ab hgr2 (by omega) (by omega), ap.grown hgr2 (by omega), aq.grown hgr2 (by omega)⟩)
                clear hK K
                try simp only [Act.put]
                refine wpAnyH_done (by kernel_rfl) ?_ _
                obtain ⟨al, ab, ap, aq⟩ := hHeld
                go_wp2_with fail
                go_meet
                exact ⟨_, _, rfl, rfl, by (first | omega | (simp only [sz_a]; done) | (simp only [sz_a]; omega) | (simp only [sz_d]; omega) | (simp only [sz_d, sz_a]; done) | (simp only [sz_d, sz_a]; omega)), by (first | omega | (simp only [sz_a]; done) | (simp only [sz_a]; omega) | (simp only [sz_d]; omega) | (simp only [sz_d, sz_a]; done) | (simp only [sz_d, sz_a]; omega)), by (first | omega | (simp only [sz_a]; done) | (simp only [sz_a]; omega) | (simp only [sz_d]; omega) | (simp only [sz_d, sz_a]; done) | (simp only [sz_d, sz_a]; omega)), hpq.grown hgr2 (by (first | omega | (simp only [sz_a]; done) | (simp only [sz_a]; omega) | (simp only [sz_d]; omega) | (simp only [sz_d, sz_a]; done) | (simp only [sz_d, sz_a]; omega))), hpq2, ab⟩
              exact AllReadyH.nil
            exact AllReadyH.nil
          exact AllReadyH.nil
        refine cons_mk rfl (fun K hK => ?_) ?_
        · go_simp
          refine hK.out _ _ ?_ (fun hHeld => ?_)
          · (obtain ⟨al, ab, ap, aq⟩ := hHeld; exact ⟨by first | (simp; done) | (simp; omega), ab.alloc (by omega) _, ap.alloc _, aq.alloc _⟩)
          clear hK K
          try simp only [Act.put, List.setIfInBounds_toArray, List.set_cons_zero, List.set_cons_succ]
          refine wpAnyH_ready (rs := [4]) (by kernel_rfl) (by simp) ?_
          refine cons_mk rfl (fun K hK => ?_) ?_
          · go_simp
            refine hK.out _ _ ?_ (fun hHeld => ?_)
            · (obtain ⟨al, ab, ap, aq⟩ := hHeld; exact ⟨by first | (simp; done) | (simp; omega), ab.alloc (by omega) _, ap.alloc _, aq.alloc _⟩)
            clear hK K
            try simp only [Act.put, List.setIfInBounds_toArray, List.set_cons_zero, List.set_cons_succ]
            refine wpAnyH_ready (rs := [6]) (by kernel_rfl) (by simp) ?_
            refine cons_mk rfl (fun K hK => ?_) ?_
            · (rw [if_pos (by rfl)]; refine wp_store_piece 23 (.tmp 9) (.tmp 25) rfl _ _ _ _ _ _ _ rfl rfl (v' := 0) (f' := 0) (s' := 0) (g' := 0) (ve' := 0) (d' := { data := #[] }) (t := 23) (zero_at (by (first | omega | (simp only [sz_a]; done) | (simp only [sz_a]; omega) | (simp only [sz_d]; omega) | (simp only [sz_d, sz_a]; done) | (simp only [sz_d, sz_a]; omega)))) piece_size ?_; intro wq hpq hgr)
              refine hK.out _ _ ?_ (fun hHeld => ?_)
              · (obtain ⟨al, ab, ap, aq⟩ := hHeld; exact ⟨Nat.le_trans al hgr.size, below_grown ab hgr (by omega) (by omega), ap.grown hgr (by omega), aq.grown hgr (by omega)⟩)
              clear hK K
              try simp only [Act.put]
              refine wpAnyH_ready (rs := [7]) (by kernel_rfl) (by simp) ?_
              refine cons_mk rfl (fun K hK => ?_) ?_
              · (rw [if_pos (by rfl)]; refine wp_store_piece 23 (.tmp 10) (.tmp 27) rfl _ _ _ _ _ _ _ rfl rfl (v' := 0) (f' := 0) (s' := 0) (g' := 0) (ve' := 0) (d' := { data := #[] }) (t := 23) (Piece.grown (Piece.alloc (zero_at (by (first | omega | (simp only [sz_a]; done) | (simp only [sz_a]; omega) | (simp only [sz_d]; omega) | (simp only [sz_d, sz_a]; done) | (simp only [sz_d, sz_a]; omega)))) _) hgr (by (first | omega | (simp only [sz_a]; done) | (simp only [sz_a]; omega) | (simp only [sz_d]; omega) | (simp only [sz_d, sz_a]; done) | (simp only [sz_d, sz_a]; omega)))) piece_size ?_; intro wq2 hpq2 hgr2)
                refine hK.out _ _ ?_ (fun hHeld => ?_)
                · (obtain ⟨al, ab, ap, aq⟩ := hHeld; exact ⟨Nat.le_trans al hgr2.size, below_grown ab hgr2 (by omega) (by omega), ap.grown hgr2 (by omega), aq.grown hgr2 (by omega)⟩)
                clear hK K
                try simp only [Act.put]
                refine wpAnyH_done (by kernel_rfl) ?_ _
                obtain ⟨al, ab, ap, aq⟩ := hHeld
                go_wp2_with fail
                go_meet
                exact ⟨_, _, rfl, rfl, by (first | omega | (simp only [sz_a]; done) | (simp only [sz_a]; omega) | (simp only [sz_d]; omega) | (simp only [sz_d, sz_a]; done) | (simp only [sz_d, sz_a]; omega)), by (first | omega | (simp only [sz_a]; done) | (simp only [sz_a]; omega) | (simp only [sz_d]; omega) | (simp only [sz_d, sz_a]; done) | (simp only [sz_d, sz_a]; omega)), by (first | omega | (simp only [sz_a]; done) | (simp only [sz_a]; omega) | (simp only [sz_d]; omega) | (simp only [sz_d, sz_a]; done) | (simp only [sz_d, sz_a]; omega)), hpq.grown hgr2 (by (first | omega | (simp only [sz_a]; done) | (simp only [sz_a]; omega) | (simp only [sz_d]; omega) | (simp only [sz_d, sz_a]; done) | (simp only [sz_d, sz_a]; omega))), hpq2, ab⟩
              exact AllReadyH.nil
            exact AllReadyH.nil
          exact AllReadyH.nil
        exact AllReadyH.nil
      refine cons_mk rfl (fun K hK => ?_) ?_
      · go_simp
        refine hK.out _ _ ?_ (fun hHeld => ?_)
        · (obtain ⟨al, ab, ap, aq⟩ := hHeld; exact ⟨by first | (simp; done) | (simp; omega), ab.alloc (by omega) _, ap.alloc _, aq.alloc _⟩)
        clear hK K
        try simp only [Act.put, List.setIfInBounds_toArray, List.set_cons_zero, List.set_cons_succ]
        refine wpAnyH_ready (rs := [3, 5]) (by kernel_rfl) (by simp) ?_
        refine cons_mk rfl (fun K hK => ?_) ?_
        · go_simp
          refine (near_p y _ HE.out).mono ?_; rintro e wx ⟨rfl, hbB⟩; have hzB := hbB.size; (try simp at hzB); go_simp
          refine hK.out _ _ ?_ (fun hHeld => ?_)
          · (obtain ⟨al, ab, ap, aq⟩ := hHeld; exact ⟨Nat.le_trans al hbB.size, ab.trans (hbB.mono (by omega)), ap.below hbB (by omega), aq.below hbB (by omega)⟩)
          clear hK K
          try simp only [Act.put, List.setIfInBounds_toArray, List.set_cons_zero, List.set_cons_succ]
          refine wpAnyH_ready (rs := [5]) (by kernel_rfl) (by simp) ?_
          refine cons_mk rfl (fun K hK => ?_) ?_
          · go_simp
            refine hK.out _ _ ?_ (fun hHeld => ?_)
            · (obtain ⟨al, ab, ap, aq⟩ := hHeld; exact ⟨by first | (simp; done) | (simp; omega), ab.alloc (by omega) _, ap.alloc _, aq.alloc _⟩)
            clear hK K
            try simp only [Act.put, List.setIfInBounds_toArray, List.set_cons_zero, List.set_cons_succ]
            refine wpAnyH_ready (rs := [6]) (by kernel_rfl) (by simp) ?_
            refine cons_mk rfl (fun K hK => ?_) ?_
            · (rw [if_pos (by rfl)]; refine wp_store_piece 23 (.tmp 9) (.tmp 25) rfl _ _ _ _ _ _ _ rfl rfl (v' := 0) (f' := 0) (s' := 0) (g' := 0) (ve' := 0) (d' := { data := #[] }) (t := 23) (Piece.alloc (Piece.below (zero_at (by (first | omega | (simp only [sz_a]; done) | (simp only [sz_a]; omega) | (simp only [sz_d]; omega) | (simp only [sz_d, sz_a]; done) | (simp only [sz_d, sz_a]; omega)))) hbB (by (first | omega | (simp only [sz_a]; done) | (simp only [sz_a]; omega) | (simp only [sz_d]; omega) | (simp only [sz_d, sz_a]; done) | (simp only [sz_d, sz_a]; omega)))) _) piece_size ?_; intro wq hpq hgr)
              refine hK.out _ _ ?_ (fun hHeld => ?_)
              · (obtain ⟨al, ab, ap, aq⟩ := hHeld; exact ⟨Nat.le_trans al hgr.size, below_grown ab hgr (by omega) (by omega), ap.grown hgr (by omega), aq.grown hgr (by omega)⟩)
              clear hK K
              try simp only [Act.put]
              refine wpAnyH_ready (rs := [7]) (by kernel_rfl) (by simp) ?_
              refine cons_mk rfl (fun K hK => ?_) ?_
              · (rw [if_pos (by rfl)]; refine wp_store_piece 23 (.tmp 10) (.tmp 27) rfl _ _ _ _ _ _ _ rfl rfl (v' := 0) (f' := 0) (s' := 0) (g' := 0) (ve' := 0) (d' := { data := #[] }) (t := 23) (Piece.grown (zero_at (by (first | omega | (simp only [sz_a]; done) | (simp only [sz_a]; omega) | (simp only [sz_d]; omega) | (simp only [sz_d, sz_a]; done) | (simp only [sz_d, sz_a]; omega)))) hgr (by (first | omega | (simp only [sz_a]; done) | (simp only [sz_a]; omega) | (simp only [sz_d]; omega) | (simp only [sz_d, sz_a]; done) | (simp only [sz_d, sz_a]; omega)))) piece_size ?_; intro wq2 hpq2 hgr2)
                refine hK.out _ _ ?_ (fun hHeld => ?_)
                · (obtain ⟨al, ab, ap, aq⟩ := hHeld; exact ⟨Nat.le_trans al hgr2.size, below_grown ab hgr2 (by omega) (by omega), ap.grown hgr2 (by omega), aq.grown hgr2 (by omega)⟩)
                clear hK K
                try simp only [Act.put]
                refine wpAnyH_done (by kernel_rfl) ?_ _
                obtain ⟨al, ab, ap, aq⟩ := hHeld
                go_wp2_with fail
                go_meet
                exact ⟨_, _, rfl, rfl, by (first | omega | (simp only [sz_a]; done) | (simp only [sz_a]; omega) | (simp only [sz_d]; omega) | (simp only [sz_d, sz_a]; done) | (simp only [sz_d, sz_a]; omega)), by (first | omega | (simp only [sz_a]; done) | (simp only [sz_a]; omega) | (simp only [sz_d]; omega) | (simp only [sz_d, sz_a]; done) | (simp only [sz_d, sz_a]; omega)), by (first | omega | (simp only [sz_a]; done) | (simp only [sz_a]; omega) | (simp only [sz_d]; omega) | (simp only [sz_d, sz_a]; done) | (simp only [sz_d, sz_a]; omega)), hpq.grown hgr2 (by (first | omega | (simp only [sz_a]; done) | (simp only [sz_a]; omega) | (simp only [sz_d]; omega) | (simp only [sz_d, sz_a]; done) | (simp only [sz_d, sz_a]; omega))), hpq2, ab⟩
              exact AllReadyH.nil
            exact AllReadyH.nil
          exact AllReadyH.nil
        refine cons_mk rfl (fun K hK => ?_) ?_
        · go_simp
          refine hK.out _ _ ?_ (fun hHeld => ?_)
          · (obtain ⟨al, ab, ap, aq⟩ := hHeld; exact ⟨by first | (simp; done) | (simp; omega), ab.alloc (by omega) _, ap.alloc _, aq.alloc _⟩)
          clear hK K
          try simp only [Act.put, List.setIfInBounds_toArray, List.set_cons_zero, List.set_cons_succ]
          refine wpAnyH_ready (rs := [3]) (by kernel_rfl) (by simp) ?_
          refine cons_mk rfl (fun K hK => ?_) ?_
          · go_simp
            refine (near_p y _ HE.out).mono ?_; rintro e wx ⟨rfl, hbB⟩; have hzB := hbB.size; (try simp at hzB); go_simp
            refine hK.out _ _ ?_ (fun hHeld => ?_)
            · (obtain ⟨al, ab, ap, aq⟩ := hHeld; exact ⟨Nat.le_trans al hbB.size, ab.trans (hbB.mono (by omega)), ap.below hbB (by omega), aq.below hbB (by omega)⟩)
            clear hK K
            try simp only [Act.put, List.setIfInBounds_toArray, List.set_cons_zero, List.set_cons_succ]
            refine wpAnyH_ready (rs := [6]) (by kernel_rfl) (by simp) ?_
            refine cons_mk rfl (fun K hK => ?_) ?_
            · (rw [if_pos (by rfl)]; refine wp_store_piece 23 (.tmp 9) (.tmp 25) rfl _ _ _ _ _ _ _ rfl rfl (v' := 0) (f' := 0) (s' := 0) (g' := 0) (ve' := 0) (d' := { data := #[] }) (t := 23) (Piece.below (Piece.alloc (zero_at (by (first | omega | (simp only [sz_a]; done) | (simp only [sz_a]; omega) | (simp only [sz_d]; omega) | (simp only [sz_d, sz_a]; done) | (simp only [sz_d, sz_a]; omega)))) _) hbB (by (first | omega | (simp only [sz_a]; done) | (simp only [sz_a]; omega) | (simp only [sz_d]; omega) | (simp only [sz_d, sz_a]; done) | (simp only [sz_d, sz_a]; omega)))) piece_size ?_; intro wq hpq hgr)
              refine hK.out _ _ ?_ (fun hHeld => ?_)
              · (obtain ⟨al, ab, ap, aq⟩ := hHeld; exact ⟨Nat.le_trans al hgr.size, below_grown ab hgr (by omega) (by omega), ap.grown hgr (by omega), aq.grown hgr (by omega)⟩)
              clear hK K
              try simp only [Act.put]
              refine wpAnyH_ready (rs := [7]) (by kernel_rfl) (by simp) ?_
              refine cons_mk rfl (fun K hK => ?_) ?_
              · (rw [if_pos (by rfl)]; refine wp_store_piece 23 (.tmp 10) (.tmp 27) rfl _ _ _ _ _ _ _ rfl rfl (v' := 0) (f' := 0) (s' := 0) (g' := 0) (ve' := 0) (d' := { data := #[] }) (t := 23) (Piece.grown (Piece.below (zero_at (by (first | omega | (simp only [sz_a]; done) | (simp only [sz_a]; omega) | (simp only [sz_d]; omega) | (simp only [sz_d, sz_a]; done) | (simp only [sz_d, sz_a]; omega)))) hbB (by (first | omega | (simp only [sz_a]; done) | (simp only [sz_a]; omega) | (simp only [sz_d]; omega) | (simp only [sz_d, sz_a]; done) | (simp only [sz_d, sz_a]; omega)))) hgr (by (first | omega | (simp only [sz_a]; done) | (simp only [sz_a]; omega) | (simp only [sz_d]; omega) | (simp only [sz_d, sz_a]; done) | (simp only [sz_d, sz_a]; omega)))) piece_size ?_; intro wq2 hpq2 hgr2)
                refine hK.out _ _ ?_ (fun hHeld => ?_)
                · (obtain ⟨al, ab, ap, aq⟩ := hHeld; exact ⟨Nat.le_trans al hgr2.size, below_grown ab hgr2 (by omega) (by omega), ap.grown hgr2 (by omega), aq.grown hgr2 (by omega)⟩)
                clear hK K
                try simp only [Act.put]
                refine wpAnyH_done (by kernel_rfl) ?_ _
                obtain ⟨al, ab, ap, aq⟩ := hHeld
                go_wp2_with fail
                go_meet
                exact ⟨_, _, rfl, rfl, by (first | omega | (simp only [sz_a]; done) | (simp only [sz_a]; omega) | (simp only [sz_d]; omega) | (simp only [sz_d, sz_a]; done) | (simp only [sz_d, sz_a]; omega)), by (first | omega | (simp only [sz_a]; done) | (simp only [sz_a]; omega) | (simp only [sz_d]; omega) | (simp only [sz_d, sz_a]; done) | (simp only [sz_d, sz_a]; omega)), by (first | omega | (simp only [sz_a]; done) | (simp only [sz_a]; omega) | (simp only [sz_d]; omega) | (simp only [sz_d, sz_a]; done) | (simp only [sz_d, sz_a]; omega)), hpq.grown hgr2 (by (first | omega | (simp only [sz_a]; done) | (simp only [sz_a]; omega) | (simp only [sz_d]; omega) | (simp only [sz_d, sz_a]; done) | (simp only [sz_d, sz_a]; omega))), hpq2, ab⟩
              exact AllReadyH.nil
            exact AllReadyH.nil
          exact AllReadyH.nil
        exact AllReadyH.nil
      refine cons_mk rfl (fun K hK => ?_) ?_
      · go_simp
        refine hK.out _ _ ?_ (fun hHeld => ?_)
        · (obtain ⟨al, ab, ap, aq⟩ := hHeld; exact ⟨by first | (simp; done) | (simp; omega), ab.alloc (by omega) _, ap.alloc _, aq.alloc _⟩)
        clear hK K
        try simp only [Act.put, List.setIfInBounds_toArray, List.set_cons_zero, List.set_cons_succ]
        refine wpAnyH_ready (rs := [3, 4]) (by kernel_rfl) (by simp) ?_
        refine cons_mk rfl (fun K hK => ?_) ?_
        · go_simp
          refine (near_p y _ HE.out).mono ?_; rintro e wx ⟨rfl, hbB⟩; have hzB := hbB.size; (try simp at hzB); go_simp
          refine hK.out _ _ ?_ (fun hHeld => ?_)
          · (obtain ⟨al, ab, ap, aq⟩ := hHeld; exact ⟨Nat.le_trans al hbB.size, ab.trans (hbB.mono (by omega)), ap.below hbB (by omega), aq.below hbB (by omega)⟩)
          clear hK K
          try simp only [Act.put, List.setIfInBounds_toArray, List.set_cons_zero, List.set_cons_succ]
          refine wpAnyH_ready (rs := [4]) (by kernel_rfl) (by simp) ?_
          refine cons_mk rfl (fun K hK => ?_) ?_
          · go_simp
            refine hK.out _ _ ?_ (fun hHeld => ?_)
            · (obtain ⟨al, ab, ap, aq⟩ := hHeld; exact ⟨by first | (simp; done) | (simp; omega), ab.alloc (by omega) _, ap.alloc _, aq.alloc _⟩)
            clear hK K
            try simp only [Act.put, List.setIfInBounds_toArray, List.set_cons_zero, List.set_cons_succ]
            refine wpAnyH_ready (rs := [6]) (by kernel_rfl) (by simp) ?_
            refine cons_mk rfl (fun K hK => ?_) ?_
            · (rw [if_pos (by rfl)]; refine wp_store_piece 23 (.tmp 9) (.tmp 25) rfl _ _ _ _ _ _ _ rfl rfl (v' := 0) (f' := 0) (s' := 0) (g' := 0) (ve' := 0) (d' := { data := #[] }) (t := 23) (zero_at (by (first | omega | (simp only [sz_a]; done) | (simp only [sz_a]; omega) | (simp only [sz_d]; omega) | (simp only [sz_d, sz_a]; done) | (simp only [sz_d, sz_a]; omega)))) piece_size ?_; intro wq hpq hgr)
              refine hK.out _ _ ?_ (fun hHeld => ?_)
              · (obtain ⟨al, ab, ap, aq⟩ := hHeld; exact ⟨Nat.le_trans al hgr.size, below_grown ab hgr (by omega) (by omega), ap.grown hgr (by omega), aq.grown hgr (by omega)⟩)
              clear hK K
              try simp only [Act.put]
              refine wpAnyH_ready (rs := [7]) (by kernel_rfl) (by simp) ?_
              refine cons_mk rfl (fun K hK => ?_) ?_
              · (rw [if_pos (by rfl)]; refine wp_store_piece 23 (.tmp 10) (.tmp 27) rfl _ _ _ _ _ _ _ rfl rfl (v' := 0) (f' := 0) (s' := 0) (g' := 0) (ve' := 0) (d' := { data := #[] }) (t := 23) (Piece.grown (Piece.alloc (Piece.below (zero_at (by (first | omega | (simp only [sz_a]; done) | (simp only [sz_a]; omega) | (simp only [sz_d]; omega) | (simp only [sz_d, sz_a]; done) | (simp only [sz_d, sz_a]; omega)))) hbB (by (first | omega | (simp only [sz_a]; done) | (simp only [sz_a]; omega) | (simp only [sz_d]; omega) | (simp only [sz_d, sz_a]; done) | (simp only [sz_d, sz_a]; omega)))) _) hgr (by (first | omega | (simp only [sz_a]; done) | (simp only [sz_a]; omega) | (simp only [sz_d]; omega) | (simp only [sz_d, sz_a]; done) | (simp only [sz_d, sz_a]; omega)))) piece_size ?_; intro wq2 hpq2 hgr2)
                refine hK.out _ _ ?_ (fun hHeld => ?_)
                · (obtain ⟨al, ab, ap, aq⟩ := hHeld; exact ⟨Nat.le_trans al hgr2.size, below_grown ab hgr2 (by omega) (by omega), ap.grown hgr2 (by omega), aq.grown hgr2 (by omega)⟩)
                clear hK K
                try simp only [Act.put]
                refine wpAnyH_done (by kernel_rfl) ?_ _
                obtain ⟨al, ab, ap, aq⟩ := hHeld
                go_wp2_with fail
                go_meet
                exact ⟨_, _, rfl, rfl, by (first | omega | (simp only [sz_a]; done) | (simp only [sz_a]; omega) | (simp only [sz_d]; omega) | (simp only [sz_d, sz_a]; done) | (simp only [sz_d, sz_a]; omega)), by (first | omega | (simp only [sz_a]; done) | (simp only [sz_a]; omega) | (simp only [sz_d]; omega) | (simp only [sz_d, sz_a]; done) | (simp only [sz_d, sz_a]; omega)), by (first | omega | (simp only [sz_a]; done) | (simp only [sz_a]; omega) | (simp only [sz_d]; omega) | (simp only [sz_d, sz_a]; done) | (simp only [sz_d, sz_a]; omega)), hpq.grown hgr2 (by (first | omega | (simp only [sz_a]; done) | (simp only [sz_a]; omega) | (simp only [sz_d]; omega) | (simp only [sz_d, sz_a]; done) | (simp only [sz_d, sz_a]; omega))), hpq2, ab⟩
              exact AllReadyH.nil
            exact AllReadyH.nil
          exact AllReadyH.nil
        refine cons_mk rfl (fun K hK => ?_) ?_
        · go_simp
          refine hK.out _ _ ?_ (fun hHeld => ?_)
          · (obtain ⟨al, ab, ap, aq⟩ := hHeld; exact ⟨by first | (simp; done) | (simp; omega), ab.alloc (by omega) _, ap.alloc _, aq.alloc _⟩)
          clear hK K
          try simp only [Act.put, List.setIfInBounds_toArray, List.set_cons_zero, List.set_cons_succ]
          refine wpAnyH_ready (rs := [3]) (by kernel_rfl) (by simp) ?_
          refine cons_mk rfl (fun K hK => ?_) ?_
          · go_simp
            refine (near_p y _ HE.out).mono ?_; rintro e wx ⟨rfl, hbB⟩; have hzB := hbB.size; (try simp at hzB); go_simp
            refine hK.out _ _ ?_ (fun hHeld => ?_)
            · (obtain ⟨al, ab, ap, aq⟩ := hHeld; exact ⟨Nat.le_trans al hbB.size, ab.trans (hbB.mono (by omega)), ap.below hbB (by omega), aq.below hbB (by omega)⟩)
            clear hK K
            try simp only [Act.put, List.setIfInBounds_toArray, List.set_cons_zero, List.set_cons_succ]
            refine wpAnyH_ready (rs := [6]) (by kernel_rfl) (by simp) ?_
            refine cons_mk rfl (fun K hK => ?_) ?_
            · (rw [if_pos (by rfl)]; refine wp_store_piece 23 (.tmp 9) (.tmp 25) rfl _ _ _ _ _ _ _ rfl rfl (v' := 0) (f' := 0) (s' := 0) (g' := 0) (ve' := 0) (d' := { data := #[] }) (t := 23) (Piece.below (zero_at (by (first | omega | (simp only [sz_a]; done) | (simp only [sz_a]; omega) | (simp only [sz_d]; omega) | (simp only [sz_d, sz_a]; done) | (simp only [sz_d, sz_a]; omega)))) hbB (by (first | omega | (simp only [sz_a]; done) | (simp only [sz_a]; omega) | (simp only [sz_d]; omega) | (simp only [sz_d, sz_a]; done) | (simp only [sz_d, sz_a]; omega)))) piece_size ?_; intro wq hpq hgr)
              refine hK.out _ _ ?_ (fun hHeld => ?_)
              · (obtain ⟨al, ab, ap, aq⟩ := hHeld; exact ⟨Nat.le_trans al hgr.size, below_grown ab hgr (by omega) (by omega), ap.grown hgr (by omega), aq.grown hgr (by omega)⟩)
              clear hK K
              try simp only [Act.put]
              refine wpAnyH_ready (rs := [7]) (by kernel_rfl) (by simp) ?_
              refine cons_mk rfl (fun K hK => ?_) ?_
              · (rw [if_pos (by rfl)]; refine wp_store_piece 23 (.tmp 10) (.tmp 27) rfl _ _ _ _ _ _ _ rfl rfl (v' := 0) (f' := 0) (s' := 0) (g' := 0) (ve' := 0) (d' := { data := #[] }) (t := 23) (Piece.grown (Piece.below (Piece.alloc (zero_at (by (first | omega | (simp only [sz_a]; done) | (simp only [sz_a]; omega) | (simp only [sz_d]; omega) | (simp only [sz_d, sz_a]; done) | (simp only [sz_d, sz_a]; omega)))) _) hbB (by (first | omega | (simp only [sz_a]; done) | (simp only [sz_a]; omega) | (simp only [sz_d]; omega) | (simp only [sz_d, sz_a]; done) | (simp only [sz_d, sz_a]; omega)))) hgr (by (first | omega | (simp only [sz_a]; done) | (simp only [sz_a]; omega) | (simp only [sz_d]; omega) | (simp only [sz_d, sz_a]; done) | (simp only [sz_d, sz_a]; omega)))) piece_size ?_; intro wq2 hpq2 hgr2)
                refine hK.out _ _ ?_ (fun hHeld => ?_)
                · (obtain ⟨al, ab, ap, aq⟩ := hHeld; exact ⟨Nat.le_trans al hgr2.size, below_grown ab hgr2 (by omega) (by omega), ap.grown hgr2 (by omega), aq.grown hgr2 (by omega)⟩)
                clear hK K
                try simp only [Act.put]
                refine wpAnyH_done (by kernel_rfl) ?_ _
                obtain ⟨al, ab, ap, aq⟩ := hHeld
                go_wp2_with fail
                go_meet
                exact ⟨_, _, rfl, rfl, by (first | omega | (simp only [sz_a]; done) | (simp only [sz_a]; omega) | (simp only [sz_d]; omega) | (simp only [sz_d, sz_a]; done) | (simp only [sz_d, sz_a]; omega)), by (first | omega | (simp only [sz_a]; done) | (simp only [sz_a]; omega) | (simp only [sz_d]; omega) | (simp only [sz_d, sz_a]; done) | (simp only [sz_d, sz_a]; omega)), by (first | omega | (simp only [sz_a]; done) | (simp only [sz_a]; omega) | (simp only [sz_d]; omega) | (simp only [sz_d, sz_a]; done) | (simp only [sz_d, sz_a]; omega)), hpq.grown hgr2 (by (first | omega | (simp only [sz_a]; done) | (simp only [sz_a]; omega) | (simp only [sz_d]; omega) | (simp only [sz_d, sz_a]; done) | (simp only [sz_d, sz_a]; omega))), hpq2, ab⟩
              exact AllReadyH.nil
            exact AllReadyH.nil
          exact AllReadyH.nil
        exact AllReadyH.nil
      exact AllReadyH.nil
    refine cons_mk rfl (fun K hK => ?_) ?_
    · go_simp
      refine hK.out _ _ ?_ (fun hHeld => ?_)
      · (obtain ⟨al, ab, ap, aq⟩ := hHeld; exact ⟨by first | (simp; done) | (simp; omega), ab.alloc (by omega) _, ap.alloc _, aq.alloc _⟩)
      clear hK K
      try simp only [Act.put, List.setIfInBounds_toArray, List.set_cons_zero, List.set_cons_succ]
      refine wpAnyH_ready (rs := [1, 5]) (by kernel_rfl) (by simp) ?_
      refine cons_mk rfl (fun K hK => ?_) ?_
      · go_simp
        refine (near_p x _ HD.out).mono ?_; rintro e wx ⟨rfl, hbA⟩; have hzA := hbA.size; (try simp at hzA); go_simp
        refine hK.out _ _ ?_ (fun hHeld => ?_)
        · (obtain ⟨al, ab, ap, aq⟩ := hHeld; exact ⟨Nat.le_trans al hbA.size, ab.trans (hbA.mono (by omega)), ap.below hbA (by omega), aq.below hbA (by omega)⟩)
        clear hK K
        try simp only [Act.put, List.setIfInBounds_toArray, List.set_cons_zero, List.set_cons_succ]
        refine wpAnyH_ready (rs := [3, 5]) (by kernel_rfl) (by simp) ?_
        refine cons_mk rfl (fun K hK => ?_) ?_
        · go_simp
          refine (near_p y _ HE.out).mono ?_; rintro e wx ⟨rfl, hbB⟩; have hzB := hbB.size; (try simp at hzB); go_simp
          refine hK.out _ _ ?_ (fun hHeld => ?_)
          · (obtain ⟨al, ab, ap, aq⟩ := hHeld; exact ⟨Nat.le_trans al hbB.size, ab.trans (hbB.mono (by omega)), ap.below hbB (by omega), aq.below hbB (by omega)⟩)
          clear hK K
          try simp only [Act.put, List.setIfInBounds_toArray, List.set_cons_zero, List.set_cons_succ]
          refine wpAnyH_ready (rs := [5]) (by kernel_rfl) (by simp) ?_
          refine cons_mk rfl (fun K hK => ?_) ?_
          · go_simp
            refine hK.out _ _ ?_ (fun hHeld => ?_)
            · (obtain ⟨al, ab, ap, aq⟩ := hHeld; exact ⟨by first | (simp; done) | (simp; omega), ab.alloc (by omega) _, ap.alloc _, aq.alloc _⟩)
            clear hK K
            try simp only [Act.put, List.setIfInBounds_toArray, List.set_cons_zero, List.set_cons_succ]
            refine wpAnyH_ready (rs := [6]) (by kernel_rfl) (by simp) ?_
            refine cons_mk rfl (fun K hK => ?_) ?_
            · (rw [if_pos (by rfl)]; refine wp_store_piece 23 (.tmp 9) (.tmp 25) rfl _ _ _ _ _ _ _ rfl rfl (v' := 0) (f' := 0) (s' := 0) (g' := 0) (ve' := 0) (d' := { data := #[] }) (t := 23) (Piece.alloc (Piece.below (Piece.below (piece_drew (zero_at (by (first | omega | (simp only [sz_a]; done) | (simp only [sz_a]; omega) | (simp only [sz_d]; omega) | (simp only [sz_d, sz_a]; done) | (simp only [sz_d, sz_a]; omega))))) hbA (by (first | omega | (simp only [sz_a]; done) | (simp only [sz_a]; omega) | (simp only [sz_d]; omega) | (simp only [sz_d, sz_a]; done) | (simp only [sz_d, sz_a]; omega)))) hbB (by (first | omega | (simp only [sz_a]; done) | (simp only [sz_a]; omega) | (simp only [sz_d]; omega) | (simp only [sz_d, sz_a]; done) | (simp only [sz_d, sz_a]; omega)))) _) piece_size ?_; intro wq hpq hgr)
              refine hK.out _ _ ?_ (fun hHeld => ?_)
              · (obtain ⟨al, ab, ap, aq⟩ := hHeld; exact ⟨Nat.le_trans al hgr.size, below_grown ab hgr (by omega) (by omega), ap.grown hgr (by omega), aq.grown hgr (by omega)⟩)
              clear hK K
              try simp only [Act.put]
              refine wpAnyH_ready (rs := [7]) (by kernel_rfl) (by simp) ?_
              refine cons_mk rfl (fun K hK => ?_) ?_
              · (rw [if_pos (by rfl)]; refine wp_store_piece 23 (.tmp 10) (.tmp 27) rfl _ _ _ _ _ _ _ rfl rfl (v' := 0) (f' := 0) (s' := 0) (g' := 0) (ve' := 0) (d' := { data := #[] }) (t := 23) (Piece.grown (zero_at (by (first | omega | (simp only [sz_a]; done) | (simp only [sz_a]; omega) | (simp only [sz_d]; omega) | (simp only [sz_d, sz_a]; done) | (simp only [sz_d, sz_a]; omega)))) hgr (by (first | omega | (simp only [sz_a]; done) | (simp only [sz_a]; omega) | (simp only [sz_d]; omega) | (simp only [sz_d, sz_a]; done) | (simp only [sz_d, sz_a]; omega)))) piece_size ?_; intro wq2 hpq2 hgr2)
                refine hK.out _ _ ?_ (fun hHeld => ?_)
                · (obtain ⟨al, ab, ap, aq⟩ := hHeld; exact ⟨Nat.le_trans al hgr2.size, below_grown ab hgr2 (by omega) (by omega), ap.grown hgr2 (by omega), aq.grown hgr2 (by omega)⟩)
                clear hK K
                try simp only [Act.put]
                refine wpAnyH_done (by kernel_rfl) ?_ _
                obtain ⟨al, ab, ap, aq⟩ := hHeld
                go_wp2_with fail
                go_meet
                exact ⟨_, _, rfl, rfl, by (first | omega | (simp only [sz_a]; done) | (simp only [sz_a]; omega) | (simp only [sz_d]; omega) | (simp only [sz_d, sz_a]; done) | (simp only [sz_d, sz_a]; omega)), by (first | omega | (simp only [sz_a]; done) | (simp only [sz_a]; omega) | (simp only [sz_d]; omega) | (simp only [sz_d, sz_a]; done) | (simp only [sz_d, sz_a]; omega)), by (first | omega | (simp only [sz_a]; done) | (simp only [sz_a]; omega) | (simp only [sz_d]; omega) | (simp only [sz_d, sz_a]; done) | (simp only [sz_d, sz_a]; omega)), hpq.grown hgr2 (by (first | omega | (simp only [sz_a]; done) | (simp only [sz_a]; omega) | (simp only [sz_d]; omega) | (simp only [sz_d, sz_a]; done) | (simp only [sz_d, sz_a]; omega))), hpq2, ab⟩
              exact AllReadyH.nil
            exact AllReadyH.nil
          exact AllReadyH.nil
        refine cons_mk rfl (fun K hK => ?_) ?_
        · go_simp
          refine hK.out _ _ ?_ (fun hHeld => ?_)
          · (obtain ⟨al, ab, ap, aq⟩ := hHeld; exact ⟨by first | (simp; done) | (simp; omega), ab.alloc (by omega) _, ap.alloc _, aq.alloc _⟩)
          clear hK K
          try simp only [Act.put, List.setIfInBounds_toArray, List.set_cons_zero, List.set_cons_succ]
          refine wpAnyH_ready (rs := [3]) (by kernel_rfl) (by simp) ?_
          refine cons_mk rfl (fun K hK => ?_) ?_
          · go_simp
            refine (near_p y _ HE.out).mono ?_; rintro e wx ⟨rfl, hbB⟩; have hzB := hbB.size; (try simp at hzB); go_simp
            refine hK.out _ _ ?_ (fun hHeld => ?_)
            · (obtain ⟨al, ab, ap, aq⟩ := hHeld; exact ⟨Nat.le_trans al hbB.size, ab.trans (hbB.mono (by omega)), ap.below hbB (by omega), aq.below hbB (by omega)⟩)
            clear hK K
            try simp only [Act.put, List.setIfInBounds_toArray, List.set_cons_zero, List.set_cons_succ]
            refine wpAnyH_ready (rs := [6]) (by kernel_rfl) (by simp) ?_
            refine cons_mk rfl (fun K hK => ?_) ?_
            · (rw [if_pos (by rfl)]; refine wp_store_piece 23 (.tmp 9) (.tmp 25) rfl _ _ _ _ _ _ _ rfl rfl (v' := 0) (f' := 0) (s' := 0) (g' := 0) (ve' := 0) (d' := { data := #[] }) (t := 23) (Piece.below (Piece.alloc (Piece.below (piece_drew (zero_at (by (first | omega | (simp only [sz_a]; done) | (simp only [sz_a]; omega) | (simp only [sz_d]; omega) | (simp only [sz_d, sz_a]; done) | (simp only [sz_d, sz_a]; omega))))) hbA (by (first | omega | (simp only [sz_a]; done) | (simp only [sz_a]; omega) | (simp only [sz_d]; omega) | (simp only [sz_d, sz_a]; done) | (simp only [sz_d, sz_a]; omega)))) _) hbB (by (first | omega | (simp only [sz_a]; done) | (simp only [sz_a]; omega) | (simp only [sz_d]; omega) | (simp only [sz_d, sz_a]; done) | (simp only [sz_d, sz_a]; omega)))) piece_size ?_; intro wq hpq hgr)
              refine hK.out _ _ ?_ (fun hHeld => ?_)
              · (obtain ⟨al, ab, ap, aq⟩ := hHeld; exact ⟨Nat.le_trans al hgr.size, below_grown ab hgr (by omega) (by omega), ap.grown hgr (by omega), aq.grown hgr (by omega)⟩)
              clear hK K
              try simp only [Act.put]
              refine wpAnyH_ready (rs := [7]) (by kernel_rfl) (by simp) ?_
              refine cons_mk rfl (fun K hK => ?_) ?_
              · (rw [if_pos (by rfl)]; refine wp_store_piece 23 (.tmp 10) (.tmp 27) rfl _ _ _ _ _ _ _ rfl rfl (v' := 0) (f' := 0) (s' := 0) (g' := 0) (ve' := 0) (d' := { data := #[] }) (t := 23) (Piece.grown (Piece.below (zero_at (by (first | omega | (simp only [sz_a]; done) | (simp only [sz_a]; omega) | (simp only [sz_d]; omega) | (simp only [sz_d, sz_a]; done) | (simp only [sz_d, sz_a]; omega)))) hbB (by (first | omega | (simp only [sz_a]; done) | (simp only [sz_a]; omega) | (simp only [sz_d]; omega) | (simp only [sz_d, sz_a]; done) | (simp only [sz_d, sz_a]; omega)))) hgr (by (first | omega | (simp only [sz_a]; done) | (simp only [sz_a]; omega) | (simp only [sz_d]; omega) | (simp only [sz_d, sz_a]; done) | (simp only [sz_d, sz_a]; omega)))) piece_size ?_; intro wq2 hpq2 hgr2)
                refine hK.out _ _ ?_ (fun hHeld => ?_)
                · (obtain ⟨al, ab, ap, aq⟩ := hHeld; exact ⟨Nat.le_trans al hgr2.size, below_grown ab hgr2 (by omega) (by omega), ap.grown hgr2 (by omega), aq.grown hgr2 (by omega)⟩)
                clear hK K
                try simp only [Act.put]
                refine wpAnyH_done (by kernel_rfl) ?_ _
                obtain ⟨al, ab, ap, aq⟩ := hHeld
                go_wp2_with fail
                go_meet
                exact ⟨_, _, rfl, rfl, by (first | omega | (simp only [sz_a]; done) | (simp only [sz_a]; omega) | (simp only [sz_d]; omega) | (simp only [sz_d, sz_a]; done) | (simp only [sz_d, sz_a]; omega)), by (first | omega | (simp only [sz_a]; done) | (simp only [sz_a]; omega) | (simp only [sz_d]; omega) | (simp only [sz_d, sz_a]; done) | (simp only [sz_d, sz_a]; omega)), by (first | omega | (simp only [sz_a]; done) | (simp only [sz_a]; omega) | (simp only [sz_d]; omega) | (simp only [sz_d, sz_a]; done) | (simp only [sz_d, sz_a]; omega)), hpq.grown hgr2 (by (first | omega | (simp only [sz_a]; done) | (simp only [sz_a]; omega) | (simp only [sz_d]; omega) | (simp only [sz_d, sz_a]; done) | (simp only [sz_d, sz_a]; omega))), hpq2, ab⟩
              exact AllReadyH.nil
            exact AllReadyH.nil
          exact AllReadyH.nil
        exact AllReadyH.nil
      refine cons_mk rfl (fun K hK => ?_) ?_
      · go_simp
        refine hK.out _ _ ?_ (fun hHeld => ?_)
        · (obtain ⟨al, ab, ap, aq⟩ := hHeld; exact ⟨by first | (simp; done) | (simp; omega), ab.alloc (by omega) _, ap.alloc _, aq.alloc _⟩)
        clear hK K
        try simp only [Act.put, List.setIfInBounds_toArray, List.set_cons_zero, List.set_cons_succ]
        refine wpAnyH_ready (rs := [1]) (by kernel_rfl) (by simp) ?_
        refine cons_mk rfl (fun K hK => ?_) ?_
        · go_simp
          refine (near_p x _ HD.out).mono ?_; rintro e wx ⟨rfl, hbA⟩; have hzA := hbA.size; (try simp at hzA); go_simp
          refine hK.out _ _ ?_ (fun hHeld => ?_)
          · (obtain ⟨al, ab, ap, aq⟩ := hHeld; exact ⟨Nat.le_trans al hbA.size, ab.trans (hbA.mono (by omega)), ap.below hbA (by omega), aq.below hbA (by omega)⟩)
          clear hK K
          try simp only [Act.put, List.setIfInBounds_toArray, List.set_cons_zero, List.set_cons_succ]
          refine wpAnyH_ready (rs := [3]) (by kernel_rfl) (by simp) ?_
          refine cons_mk rfl (fun K hK => ?_) ?_
          · go_simp
            refine (near_p y _ HE.out).mono ?_; rintro e wx ⟨rfl, hbB⟩; have hzB := hbB.size; (try simp at hzB); go_simp
            refine hK.out _ _ ?_ (fun hHeld => ?_)
            · (obtain ⟨al, ab, ap, aq⟩ := hHeld; exact ⟨Nat.le_trans al hbB.size, ab.trans (hbB.mono (by omega)), ap.below hbB (by omega), aq.below hbB (by omega)⟩)
            clear hK K
            try simp only [Act.put, List.setIfInBounds_toArray, List.set_cons_zero, List.set_cons_succ]
            refine wpAnyH_ready (rs := [6]) (by kernel_rfl) (by simp) ?_
            refine cons_mk rfl (fun K hK => ?_) ?_
            · (rw [if_pos (by rfl)]; refine wp_store_piece 23 (.tmp 9) (.tmp 25) rfl _ _ _ _ _ _ _ rfl rfl (v' := 0) (f' := 0) (s' := 0) (g' := 0) (ve' := 0) (d' := { data := #[] }) (t := 23) (Piece.below (Piece.below (piece_drew (Piece.alloc (zero_at (by (first | omega | (simp only [sz_a]; done) | (simp only [sz_a]; omega) | (simp only [sz_d]; omega) | (simp only [sz_d, sz_a]; done) | (simp only [sz_d, sz_a]; omega)))) _)) hbA (by (first | omega | (simp only [sz_a]; done) | (simp only [sz_a]; omega) | (simp only [sz_d]; omega) | (simp only [sz_d, sz_a]; done) | (simp only [sz_d, sz_a]; omega)))) hbB (by (first | omega | (simp only [sz_a]; done) | (simp only [sz_a]; omega) | (simp only [sz_d]; omega) | (simp only [sz_d, sz_a]; done) | (simp only [sz_d, sz_a]; omega)))) piece_size ?_; intro wq hpq hgr)
              refine hK.out _ _ ?_ (fun hHeld => ?_)
              · (obtain ⟨al, ab, ap, aq⟩ := hHeld; exact ⟨Nat.le_trans al hgr.size, below_grown ab hgr (by omega) (by omega), ap.grown hgr (by omega), aq.grown hgr (by omega)⟩)
              clear hK K
              try simp only [Act.put]
              refine wpAnyH_ready (rs := [7]) (by kernel_rfl) (by simp) ?_
              refine cons_mk rfl (fun K hK => ?_) ?_
              · (rw [if_pos (by rfl)]; refine wp_store_piece 23 (.tmp 10) (.tmp 27) rfl _ _ _ _ _ _ _ rfl rfl (v' := 0) (f' := 0) (s' := 0) (g' := 0) (ve' := 0) (d' := { data := #[] }) (t := 23) (Piece.grown (Piece.below (Piece.below (piece_drew (zero_at (by (first | omega | (simp only [sz_a]; done) | (simp only [sz_a]; omega) | (simp only [sz_d]; omega) | (simp only [sz_d, sz_a]; done) | (simp only [sz_d, sz_a]; omega))))) hbA (by (first | omega | (simp only [sz_a]; done) | (simp only [sz_a]; omega) | (simp only [sz_d]; omega) | (simp only [sz_d, sz_a]; done) | (simp only [sz_d, sz_a]; omega)))) hbB (by (first | omega | (simp only [sz_a]; done) | (simp only [sz_a]; omega) | (simp only [sz_d]; omega) | (simp only [sz_d, sz_a]; done) | (simp only [sz_d, sz_a]; omega)))) hgr (by (first | omega | (simp only [sz_a]; done) | (simp only [sz_a]; omega) | (simp only [sz_d]; omega) | (simp only [sz_d, sz_a]; done) | (simp only [sz_d, sz_a]; omega)))) piece_size ?_; intro wq2 hpq2 hgr2)
                refine hK.out _ _ ?_ (fun hHeld => ?_)
                · (obtain ⟨al, ab, ap, aq⟩ := hHeld; exact ⟨Nat.le_trans al hgr2.size, below_grown ab hgr2 (by omega) (by omega), ap.grown hgr2 (by omega), aq.grown hgr2 (by omega)⟩)
                clear hK K
                try simp only [Act.put]
                refine wpAnyH_done (by kernel_rfl) ?_ _
                obtain ⟨al, ab, ap, aq⟩ := hHeld
                go_wp2_with fail
                go_meet
                exact ⟨_, _, rfl, rfl, by (first | omega | (simp only [sz_a]; done) | (simp only [sz_a]; omega) | (simp only [sz_d]; omega) | (simp only [sz_d, sz_a]; done) | (simp only [sz_d, sz_a]; omega)), by (first | omega | (simp only [sz_a]; done) | (simp only [sz_a]; omega) | (simp only [sz_d]; omega) | (simp only [sz_d, sz_a]; done) | (simp only [sz_d, sz_a]; omega)), by (first | omega | (simp only [sz_a]; done) | (simp only [sz_a]; omega) | (simp only [sz_d]; omega) | (simp only [sz_d, sz_a]; done) | (simp only [sz_d, sz_a]; omega)), hpq.grown hgr2 (by (first | omega | (simp only [sz_a]; done) | (simp only [sz_a]; omega) | (simp only [sz_d]; omega) | (simp only [sz_d, sz_a]; done) | (simp only [sz_d, sz_a]; omega))), hpq2, ab⟩
              exact AllReadyH.nil
            exact AllReadyH.nil
          exact AllReadyH.nil
        exact AllReadyH.nil
      exact AllReadyH.nil
    refine cons_mk rfl (fun K hK => ?_) ?_
    · go_simp
      refine hK.out _ _ ?_ (fun hHeld => ?_)
      · (obtain ⟨al, ab, ap, aq⟩ := hHeld; exact ⟨by first | (simp; done) | (simp; omega), ab.alloc (by omega) _, ap.alloc _, aq.alloc _⟩)
      clear hK K
      try simp only [Act.put, List.setIfInBounds_toArray, List.set_cons_zero, List.set_cons_succ]
      refine wpAnyH_ready (rs := [1, 4]) (by kernel_rfl) (by simp) ?_
      refine cons_mk rfl (fun K hK => ?_) ?_
      · go_simp
        refine (near_p x _ HD.out).mono ?_; rintro e wx ⟨rfl, hbA⟩; have hzA := hbA.size; (try simp at hzA); go_simp
        refine hK.out _ _ ?_ (fun hHeld => ?_)
        · (obtain ⟨al, ab, ap, aq⟩ := hHeld; exact ⟨Nat.le_trans al hbA.size, ab.trans (hbA.mono (by omega)), ap.below hbA (by omega), aq.below hbA (by omega)⟩)
        clear hK K
        try simp only [Act.put, List.setIfInBounds_toArray, List.set_cons_zero, List.set_cons_succ]
        refine wpAnyH_ready (rs := [3, 4]) (by kernel_rfl) (by simp) ?_
        refine cons_mk rfl (fun K hK => ?_) ?_
        · go_simp
          refine (near_p y _ HE.out).mono ?_; rintro e wx ⟨rfl, hbB⟩; have hzB := hbB.size; (try simp at hzB); go_simp
          refine hK.out _ _ ?_ (fun hHeld => ?_)
          · (obtain ⟨al, ab, ap, aq⟩ := hHeld; exact ⟨Nat.le_trans al hbB.size, ab.trans (hbB.mono (by omega)), ap.below hbB (by omega), aq.below hbB (by omega)⟩)
          clear hK K
          try simp only [Act.put, List.setIfInBounds_toArray, List.set_cons_zero, List.set_cons_succ]
          refine wpAnyH_ready (rs := [4]) (by kernel_rfl) (by simp) ?_
          refine cons_mk rfl (fun K hK => ?_) ?_
          · go_simp
            refine hK.out _ _ ?_ (fun hHeld => ?_)
            · (obtain ⟨al, ab, ap, aq⟩ := hHeld; exact ⟨by first | (simp; done) | (simp; omega), ab.alloc (by omega) _, ap.alloc _, aq.alloc _⟩)
            clear hK K
            try simp only [Act.put, List.setIfInBounds_toArray, List.set_cons_zero, List.set_cons_succ]
            refine wpAnyH_ready (rs := [6]) (by kernel_rfl) (by simp) ?_
            refine cons_mk rfl (fun K hK => ?_) ?_
            · (rw [if_pos (by rfl)]; refine wp_store_piece 23 (.tmp 9) (.tmp 25) rfl _ _ _ _ _ _ _ rfl rfl (v' := 0) (f' := 0) (s' := 0) (g' := 0) (ve' := 0) (d' := { data := #[] }) (t := 23) (zero_at (by (first | omega | (simp only [sz_a]; done) | (simp only [sz_a]; omega) | (simp only [sz_d]; omega) | (simp only [sz_d, sz_a]; done) | (simp only [sz_d, sz_a]; omega)))) piece_size ?_; intro wq hpq hgr)
              refine hK.out _ _ ?_ (fun hHeld => ?_)
              · (obtain ⟨al, ab, ap, aq⟩ := hHeld; exact ⟨Nat.le_trans al hgr.size, below_grown ab hgr (by omega) (by omega), ap.grown hgr (by omega), aq.grown hgr (by omega)⟩)
              clear hK K
              try simp only [Act.put]
              refine wpAnyH_ready (rs := [7]) (by kernel_rfl) (by simp) ?_
              refine cons_mk rfl (fun K hK => ?_) ?_
              · (rw [if_pos (by rfl)]; refine wp_store_piece 23 (.tmp 10) (.tmp 27) rfl _ _ _ _ _ _ _ rfl rfl (v' := 0) (f' := 0) (s' := 0) (g' := 0) (ve' := 0) (d' := { data := #[] }) (t := 23) (Piece.grown (Piece.alloc (Piece.below (Piece.below (piece_drew (zero_at (by (first | omega | (simp only [sz_a]; done) | (simp only [sz_a]; omega) | (simp only [sz_d]; omega) | (simp only [sz_d, sz_a]; done) | (simp only [sz_d, sz_a]; omega))))) hbA (by (first | omega | (simp only [sz_a]; done) | (simp only [sz_a]; omega) | (simp only [sz_d]; omega) | (simp only [sz_d, sz_a]; done) | (simp only [sz_d, sz_a]; omega)))) hbB (by (first | omega | (simp only [sz_a]; done) | (simp only [sz_a]; omega) | (simp only [sz_d]; omega) | (simp only [sz_d, sz_a]; done) | (simp only [sz_d, sz_a]; omega)))) _) hgr (by (first | omega | (simp only [sz_a]; done) | (simp only [sz_a]; omega) | (simp only [sz_d]; omega) | (simp only [sz_d, sz_a]; done) | (simp only [sz_d, sz_a]; omega)))) piece_size ?_; intro wq2 hpq2 hgr2)
                refine hK.out _ _ ?_ (fun hHeld => ?_)
                · (obtain ⟨al, ab, ap, aq⟩ := hHeld; exact ⟨Nat.le_trans al hgr2.size, below_grown ab hgr2 (by omega) (by omega), ap.grown hgr2 (by omega), aq.grown hgr2 (by omega)⟩)
                clear hK K
                try simp only [Act.put]
                refine wpAnyH_done (by kernel_rfl) ?_ _
                obtain ⟨al, ab, ap, aq⟩ := hHeld
                go_wp2_with fail
                go_meet
                exact ⟨_, _, rfl, rfl, by (first | omega | (simp only [sz_a]; done) | (simp only [sz_a]; omega) | (simp only [sz_d]; omega) | (simp only [sz_d, sz_a]; done) | (simp only [sz_d, sz_a]; omega)), by (first | omega | (simp only [sz_a]; done) | (simp only [sz_a]; omega) | (simp only [sz_d]; omega) | (simp only [sz_d, sz_a]; done) | (simp only [sz_d, sz_a]; omega)), by (first | omega | (simp only [sz_a]; done) | (simp only [sz_a]; omega) | (simp only [sz_d]; omega) | (simp only [sz_d, sz_a]; done) | (simp only [sz_d, sz_a]; omega)), hpq.grown hgr2 (by (first | omega | (simp only [sz_a]; done) | (simp only [sz_a]; omega) | (simp only [sz_d]; omega) | (simp only [sz_d, sz_a]; done) | (simp only [sz_d, sz_a]; omega))), hpq2, ab⟩
              exact AllReadyH.nil
            exact AllReadyH.nil
          exact AllReadyH.nil
        refine cons_mk rfl (fun K hK => ?_) ?_
        · go_simp
          refine hK.out _ _ ?_ (fun hHeld => ?_)
          · (obtain ⟨al, ab, ap, aq⟩ := hHeld; exact ⟨by first | (simp; done) | (simp; omega), ab.alloc (by omega) _, ap.alloc _, aq.alloc _⟩)
          clear hK K
          try simp only [Act.put, List.setIfInBounds_toArray, List.set_cons_zero, List.set_cons_succ]
          refine wpAnyH_ready (rs := [3]) (by kernel_rfl) (by simp) ?_
          refine cons_mk rfl (fun K hK => ?_) ?_
          · go_simp
            refine (near_p y _ HE.out).mono ?_; rintro e wx ⟨rfl, hbB⟩; have hzB := hbB.size; (try simp at hzB); go_simp
            refine hK.out _ _ ?_ (fun hHeld => ?_)
            · (obtain ⟨al, ab, ap, aq⟩ := hHeld; exact ⟨Nat.le_trans al hbB.size, ab.trans (hbB.mono (by omega)), ap.below hbB (by omega), aq.below hbB (by omega)⟩)
            clear hK K
            try simp only [Act.put, List.setIfInBounds_toArray, List.set_cons_zero, List.set_cons_succ]
            refine wpAnyH_ready (rs := [6]) (by kernel_rfl) (by simp) ?_
            refine cons_mk rfl (fun K hK => ?_) ?_
            · (rw [if_pos (by rfl)]; refine wp_store_piece 23 (.tmp 9) (.tmp 25) rfl _ _ _ _ _ _ _ rfl rfl (v' := 0) (f' := 0) (s' := 0) (g' := 0) (ve' := 0) (d' := { data := #[] }) (t := 23) (Piece.below (zero_at (by (first | omega | (simp only [sz_a]; done) | (simp only [sz_a]; omega) | (simp only [sz_d]; omega) | (simp only [sz_d, sz_a]; done) | (simp only [sz_d, sz_a]; omega)))) hbB (by (first | omega | (simp only [sz_a]; done) | (simp only [sz_a]; omega) | (simp only [sz_d]; omega) | (simp only [sz_d, sz_a]; done) | (simp only [sz_d, sz_a]; omega)))) piece_size ?_; intro wq hpq hgr)
              refine hK.out _ _ ?_ (fun hHeld => ?_)
              · (obtain ⟨al, ab, ap, aq⟩ := hHeld; exact ⟨Nat.le_trans al hgr.size, below_grown ab hgr (by omega) (by omega), ap.grown hgr (by omega), aq.grown hgr (by omega)⟩)
              clear hK K
              try simp only [Act.put]
              refine wpAnyH_ready (rs := [7]) (by kernel_rfl) (by simp) ?_
              refine cons_mk rfl (fun K hK => ?_) ?_
              · (rw [if_pos (by rfl)]; refine wp_store_piece 23 (.tmp 10) (.tmp 27) rfl _ _ _ _ _ _ _ rfl rfl (v' := 0) (f' := 0) (s' := 0) (g' := 0) (ve' := 0) (d' := { data := #[] }) (t := 23) (Piece.grown (Piece.below (Piece.alloc (Piece.below (piece_drew (zero_at (by (first | omega | (simp only [sz_a]; done) | (simp only [sz_a]; omega) | (simp only [sz_d]; omega) | (simp only [sz_d, sz_a]; done) | (simp only [sz_d, sz_a]; omega))))) hbA (by (first | omega | (simp only [sz_a]; done) | (simp only [sz_a]; omega) | (simp only [sz_d]; omega) | (simp only [sz_d, sz_a]; done) | (simp only [sz_d, sz_a]; omega)))) _) hbB (by (first | omega | (simp only [sz_a]; done) | (simp only [sz_a]; omega) | (simp only [sz_d]; omega) | (simp only [sz_d, sz_a]; done) | (simp only [sz_d, sz_a]; omega)))) hgr (by (first | omega | (simp only [sz_a]; done) | (simp only [sz_a]; omega) | (simp only [sz_d]; omega) | (simp only [sz_d, sz_a]; done) | (simp only [sz_d, sz_a]; omega)))) piece_size ?_; intro wq2 hpq2 hgr2)
                refine hK.out _ _ ?_ (fun hHeld => ?_)
                · (obtain ⟨al, ab, ap, aq⟩ := hHeld; exact ⟨Nat.le_trans al hgr2.size, below_grown ab hgr2 (by omega) (by omega), ap.grown hgr2 (by omega), aq.grown hgr2 (by omega)⟩)
                clear hK K
                try simp only [Act.put]
                refine wpAnyH_done (by kernel_rfl) ?_ _
                obtain ⟨al, ab, ap, aq⟩ := hHeld
                go_wp2_with fail
                go_meet
                exact ⟨_, _, rfl, rfl, by (first | omega | (simp only [sz_a]; done) | (simp only [sz_a]; omega) | (simp only [sz_d]; omega) | (simp only [sz_d, sz_a]; done) | (simp only [sz_d, sz_a]; omega)), by (first | omega | (simp only [sz_a]; done) | (simp only [sz_a]; omega) | (simp only [sz_d]; omega) | (simp only [sz_d, sz_a]; done) | (simp only [sz_d, sz_a]; omega)), by (first | omega | (simp only [sz_a]; done) | (simp only [sz_a]; omega) | (simp only [sz_d]; omega) | (simp only [sz_d, sz_a]; done) | (simp only [sz_d, sz_a]; omega)), hpq.grown hgr2 (by (first | omega | (simp only [sz_a]; done) | (simp only [sz_a]; omega) | (simp only [sz_d]; omega) | (simp only [sz_d, sz_a]; done) | (simp only [sz_d, sz_a]; omega))), hpq2, ab⟩
              exact AllReadyH.nil
            exact AllReadyH.nil
          exact AllReadyH.nil
        exact AllReadyH.nil
      refine cons_mk rfl (fun K hK => ?_) ?_
      · go_simp
        refine hK.out _ _ ?_ (fun hHeld => ?_)
        · (obtain ⟨al, ab, ap, aq⟩ := hHeld; exact ⟨by first | (simp; done) | (simp; omega), ab.alloc (by omega) _, ap.alloc _, aq.alloc _⟩)
        clear hK K
        try simp only [Act.put, List.setIfInBounds_toArray, List.set_cons_zero, List.set_cons_succ]
        refine wpAnyH_ready (rs := [1]) (by kernel_rfl) (by simp) ?_
        refine cons_mk rfl (fun K hK => ?_) ?_
        · go_simp
          refine (near_p x _ HD.out).mono ?_; rintro e wx ⟨rfl, hbA⟩; have hzA := hbA.size; (try simp at hzA); go_simp
          refine hK.out _ _ ?_ (fun hHeld => ?_)
          · (obtain ⟨al, ab, ap, aq⟩ := hHeld; exact ⟨Nat.le_trans al hbA.size, ab.trans (hbA.mono (by omega)), ap.below hbA (by omega), aq.below hbA (by omega)⟩)
          clear hK K
          try simp only [Act.put, List.setIfInBounds_toArray, List.set_cons_zero, List.set_cons_succ]
          refine wpAnyH_ready (rs := [3]) (by kernel_rfl) (by simp) ?_
          refine cons_mk rfl (fun K hK => ?_) ?_
          · go_simp
            refine (near_p y _ HE.out).mono ?_; rintro e wx ⟨rfl, hbB⟩; have hzB := hbB.size; (try simp at hzB); go_simp
            refine hK.out _ _ ?_ (fun hHeld => ?_)
            · (obtain ⟨al, ab, ap, aq⟩ := hHeld; exact ⟨Nat.le_trans al hbB.size, ab.trans (hbB.mono (by omega)), ap.below hbB (by omega), aq.below hbB (by omega)⟩)
            clear hK K
            try simp only [Act.put, List.setIfInBounds_toArray, List.set_cons_zero, List.set_cons_succ]
            refine wpAnyH_ready (rs := [6]) (by kernel_rfl) (by simp) ?_
            refine cons_mk rfl (fun K hK => ?_) ?_
            · (rw [if_pos (by rfl)]; refine wp_store_piece 23 (.tmp 9) (.tmp 25) rfl _ _ _ _ _ _ _ rfl rfl (v' := 0) (f' := 0) (s' := 0) (g' := 0) (ve' := 0) (d' := { data := #[] }) (t := 23) (Piece.below (Piece.below (piece_drew (zero_at (by (first | omega | (simp only [sz_a]; done) | (simp only [sz_a]; omega) | (simp only [sz_d]; omega) | (simp only [sz_d, sz_a]; done) | (simp only [sz_d, sz_a]; omega))))) hbA (by (first | omega | (simp only [sz_a]; done) | (simp only [sz_a]; omega) | (simp only [sz_d]; omega) | (simp only [sz_d, sz_a]; done) | (simp only [sz_d, sz_a]; omega)))) hbB (by (first | omega | (simp only [sz_a]; done) | (simp only [sz_a]; omega) | (simp only [sz_d]; omega) | (simp only [sz_d, sz_a]; done) | (simp only [sz_d, sz_a]; omega)))) piece_size ?_; intro wq hpq hgr)
              refine hK.out _ _ ?_ (fun hHeld => ?_)
              · (obtain ⟨al, ab, ap, aq⟩ := hHeld; exact ⟨Nat.le_trans al hgr.size, below_grown ab hgr (by omega) (by omega), ap.grown hgr (by omega), aq.grown hgr (by omega)⟩)
              clear hK K
              try simp only [Act.put]
              refine wpAnyH_ready (rs := [7]) (by kernel_rfl) (by simp) ?_
              refine cons_mk rfl (fun K hK => ?_) ?_
              · (rw [if_pos (by rfl)]; refine wp_store_piece 23 (.tmp 10) (.tmp 27) rfl _ _ _ _ _ _ _ rfl rfl (v' := 0) (f' := 0) (s' := 0) (g' := 0) (ve' := 0) (d' := { data := #[] }) (t := 23) (Piece.grown (Piece.below (Piece.below (piece_drew (Piece.alloc (zero_at (by (first | omega | (simp only [sz_a]; done) | (simp only [sz_a]; omega) | (simp only [sz_d]; omega) | (simp only [sz_d, sz_a]; done) | (simp only [sz_d, sz_a]; omega)))) _)) hbA (by (first | omega | (simp only [sz_a]; done) | (simp only [sz_a]; omega) | (simp only [sz_d]; omega) | (simp only [sz_d, sz_a]; done) | (simp only [sz_d, sz_a]; omega)))) hbB (by (first | omega | (simp only [sz_a]; done) | (simp only [sz_a]; omega) | (simp only [sz_d]; omega) | (simp only [sz_d, sz_a]; done) | (simp only [sz_d, sz_a]; omega)))) hgr (by (first | omega | (simp only [sz_a]; done) | (simp only [sz_a]; omega) | (simp only [sz_d]; omega) | (simp only [sz_d, sz_a]; done) | (simp only [sz_d, sz_a]; omega)))) piece_size ?_; intro wq2 hpq2 hgr2)
                refine hK.out _ _ ?_ (fun hHeld => ?_)
                · (obtain ⟨al, ab, ap, aq⟩ := hHeld; exact ⟨Nat.le_trans al hgr2.size, below_grown ab hgr2 (by omega) (by omega), ap.grown hgr2 (by omega), aq.grown hgr2 (by omega)⟩)
                clear hK K
                try simp only [Act.put]
                refine wpAnyH_done (by kernel_rfl) ?_ _
                obtain ⟨al, ab, ap, aq⟩ := hHeld
                go_wp2_with fail
                go_meet
                exact ⟨_, _, rfl, rfl, by (first | omega | (simp only [sz_a]; done) | (simp only [sz_a]; omega) | (simp only [sz_d]; omega) | (simp only [sz_d, sz_a]; done) | (simp only [sz_d, sz_a]; omega)), by (first | omega | (simp only [sz_a]; done) | (simp only [sz_a]; omega) | (simp only [sz_d]; omega) | (simp only [sz_d, sz_a]; done) | (simp only [sz_d, sz_a]; omega)), by (first | omega | (simp only [sz_a]; done) | (simp only [sz_a]; omega) | (simp only [sz_d]; omega) | (simp only [sz_d, sz_a]; done) | (simp only [sz_d, sz_a]; omega)), hpq.grown hgr2 (by (first | omega | (simp only [sz_a]; done) | (simp only [sz_a]; omega) | (simp only [sz_d]; omega) | (simp only [sz_d, sz_a]; done) | (simp only [sz_d, sz_a]; omega))), hpq2, ab⟩
              exact AllReadyH.nil
            exact AllReadyH.nil
          exact AllReadyH.nil
        exact AllReadyH.nil
      exact AllReadyH.nil
    exact AllReadyH.nil
  case rest =>
    obtain ⟨b, c, rfl, rfl, hne, hlb, hlc, hp, hq, hb⟩ := hcut
    obtain ⟨q, hq0⟩ : ∃ q : Pc, q = nearP y := ⟨_, rfl⟩
    rw [← hq0] at hq
    clear hq0
    have HPOK := hid (nearP_ok x)
    generalize nearP x = p at *
    have hz0 := Int.emod_nonneg wh (show (3 : Int) ≠ 0 by decide)
    have hz1 := Int.emod_lt_of_pos wh (show (0 : Int) < 3 by decide)
    have HP := hid (pc_vals hp)
    have HQ := hid (pc_vals hq)
    have HB := hid hb
    have HNE := hid (And.intro hne (And.intro hlb hlc))
    clear hp hq hb hne hlb hlc HPX HPY
    generalize hz : wh % 3 = z at *
    have HZ := hid hz
    clear hz
    go_wp2_with fail
    refine (within_any wh 3 wc (by decide) (by decide)).mono ?_
    rintro e wx ⟨rfl, rfl⟩
    rw [HZ.out]
    go_upto_if 30 with fail
    go_cut [] (fun wy => ∃ q : Pc, ValsAt wy b p.cells ∧ ValsAt wy c q.cells ∧ Below w1.heap.size w1 wy)
    case first =>
      by_cases h0 : 0 < z
      · obtain ⟨c0, c1, c2, c3, c4, c5⟩ := pc_cells HP.out
        obtain ⟨r0, r1, r2, r3, r4, r5⟩ := pc_cells HQ.out
        have f0 := HQ.out.free 0 (by simp)
        have f1 := HQ.out.free 1 (by simp)
        have f2 := HQ.out.free 2 (by simp)
        have hne := HNE.out.1
        go_wp2_with fail
        go_region
        go_wp2_with fail
        go_meet
        exact ⟨⟨p.vol, p.frag, p.stripe, q.gen, q.ver, q.data⟩, vals_drew (((HP.out.other _ _ hne).other _ _ hne).other _ _ hne), vals_drew (((HQ.out.store 0 (.int .i64 p.vol) (by simp)).store 1 (.int .i64 p.frag) (by simp)).store 2 (.int .i64 p.stripe) (by simp)),
          (((HB.out.setCell (p := ⟨c, 0, none⟩) HNE.out.2.2 _).setCell (p := ⟨c, 1, none⟩) HNE.out.2.2 _).setCell (p := ⟨c, 2, none⟩) HNE.out.2.2 _).drew⟩
      · go_wp2_with fail
        go_meet
        exact ⟨q, HP.out, HQ.out, HB.out⟩
    case rest =>
      clear HP HQ HB
      obtain ⟨q, hp, hq, hb⟩ := hcut
      have HP := hid hp
      have HQ := hid hq
      have HB := hid hb
      clear hp hq hb
      go_wp2_with fail
      refine (within_any wh 3 _ (by decide) (by decide)).mono ?_
      rintro e wx ⟨rfl, rfl⟩
      rw [HZ.out]
      go_upto_if 42 with fail
      go_cut [] (fun wy => ∃ q : Pc, ValsAt wy b p.cells ∧ ValsAt wy c q.cells ∧ Below w1.heap.size w1 wy)
      case first =>
        by_cases h0 : 1 < z
        · obtain ⟨c0, c1, c2, c3, c4, c5⟩ := pc_cells HP.out
          obtain ⟨r0, r1, r2, r3, r4, r5⟩ := pc_cells HQ.out
          have f4 := HQ.out.free 4 (by simp)
          have hne := HNE.out.1
          go_wp2_with fail
          go_meet
          exact ⟨⟨q.vol, q.frag, q.stripe, q.gen, p.ver, q.data⟩, HP.out.other _ _ hne, HQ.out.store 4 (.int .i64 p.ver) (by simp), HB.out.setCell (p := ⟨c, 4, none⟩) HNE.out.2.2 _⟩
        · go_wp2_with fail
          go_meet
          exact ⟨q, HP.out, HQ.out, HB.out⟩
      case rest =>
        clear HP HQ HB
        obtain ⟨q, hp, hq, hb⟩ := hcut
        have HP := hid hp
        have HQ := hid hq
        have HB := hid hb
        clear hp hq hb
        obtain ⟨c0, c1, c2, c3, c4, c5⟩ := pc_cells HP.out
        go_wp2_with fail
        refine (enc_p p _ HPOK.out).mono ?_
        rintro e w2 ⟨rfl, hb2⟩
        have HP2 := hid (HP.out.below hb2 HP.out.lt)
        have HQ2 := hid (HQ.out.below hb2 HQ.out.lt)
        have HB2 := hid (HB.out.trans (hb2.mono HB.out.size))
        obtain ⟨S, he, hf, hr1, hr0, _⟩ := put_one 2 (by omega) (by omega) 1 (by omega) (encP_size HPOK.out)
        have HE0 := hid (show (newDv 2 2).write 0 1 (encP p) = (0, S) from he)
        have HF := hid hf
        have HS1 := hid (show stateOf S ⟨1, q⟩ = found p q by rw [state_read (s := 1) hr1, seen_enc HPOK.out])
        have HS0 := hid (show stateOf S ⟨0, q⟩ = 2 by rw [state_read (s := 0) (hr0 0 (by omega) (by omega)), seen_blank])
        clear c0 c1 c2 c3 c4 c5 HP HQ HB hb2 he hf hr1 hr0
        generalize encP p = sd at *
        go_wp2_with fail
        refine (write_e (HDR.out.below HB2.out) (newDv_ok 2 2 (by omega) (by omega) (by omega)) 0 1 sd).mono ?_
        rintro e w3 ⟨rfl, hd3, hf3⟩
        rw [HE0.out] at hd3 ⊢
        have HD3 := hid hd3
        have hou := (HDR.out.below HB2.out).under
        have HU := hid (show ∀ j, w1.heap.size ≤ j → ¬ o j from fun j hj e => by have := HDR.out.under j e; omega)
        have HP3 := hid (HP2.out.fr hf3 (HU.out b HNE.out.2.1))
        have HQ3 := hid (HQ2.out.fr hf3 (HU.out c HNE.out.2.2))
        have hb02 : Below w0.heap.size w0 w2 := HB01.out.trans (HB2.out.mono HB01.out.size)
        have HB3 := hid (below_of_fr hb02 hf3 HA1.out hb02.size)
        clear hd3 hf3 HP2 HQ2 HB2 HDR hou hb02
        obtain ⟨r0, r1, r2, r3, r4, r5⟩ := pc_cells HQ3.out
        go_wp2_with fail
        have hb4 : Below w3.heap.size w3 (w3.alloc (.cells ([(⟨1, q⟩ : Wt), ⟨0, q⟩].flatMap Wt.cells).toArray 36)) := (Below.refl _ _).alloc (Nat.le_refl _) _
        have hwa := wants_new (l := [(⟨1, q⟩ : Wt), ⟨0, q⟩]) (heap_alloc_new w3 (.cells ([(⟨1, q⟩ : Wt), ⟨0, q⟩].flatMap Wt.cells).toArray 36)) (by simp; unfold maxLen; omega) 2
        refine (classify_all (HD3.out.below hb4) HF.out.ok hwa (by simp)).mono ?_
        rintro e w5 ⟨v5, rfl, hv5, hb5⟩
        rw [show List.map (stateOf S) [(⟨1, q⟩ : Wt), ⟨0, q⟩] = [found p q, 2] by rw [List.map_cons, List.map_cons, HS1.out, HS0.out]; rfl] at hv5
        obtain ⟨g, off, cap, rfl, y0, y1⟩ := ints_two hv5
        have hb45 := hb4.trans (hb5.mono (by simp))
        have HL := hid (show Last w0 g off (found p q) b c p q w5 from ⟨y0, y1, cell_lt y0, HP3.out.below hb45 HP3.out.lt, HQ3.out.below hb45 HQ3.out.lt, HB3.out.trans (hb45.mono HB3.out.size)⟩)
        clear hv5 hb4 hb5 hb45 hwa r0 r1 r2 r3 r4 r5 y0 y1 HP3 HQ3 HB3 HD3
        have hs1 := int_self (found p q)
        go_upto_region 13 with fail
        replace HL := hid (HL.out.then (w' := w5.drew) ((Below.refl _ _).drew))
        go_region_held3 (fun w' => w'.cell? ⟨g, off, none⟩ = some (.int .i64 (found p q)) ∧ w'.cell? ⟨g, off + 1, none⟩ = some (.int .i64 2) ∧ (w'.cell? ⟨b, 0, none⟩ = some (.int .i64 p.vol) ∧ w'.cell? ⟨b, 1, none⟩ = some (.int .i64 p.frag) ∧ w'.cell? ⟨b, 2, none⟩ = some (.int .i64 p.stripe) ∧ w'.cell? ⟨b, 3, none⟩ = some (.int .i64 p.gen) ∧ w'.cell? ⟨b, 4, none⟩ = some (.int .i64 p.ver) ∧ w'.cell? ⟨b, 5, none⟩ = some (.string p.data)) ∧ (w'.cell? ⟨c, 0, none⟩ = some (.int .i64 q.vol) ∧ w'.cell? ⟨c, 1, none⟩ = some (.int .i64 q.frag) ∧ w'.cell? ⟨c, 2, none⟩ = some (.int .i64 q.stripe) ∧ w'.cell? ⟨c, 3, none⟩ = some (.int .i64 q.gen) ∧ w'.cell? ⟨c, 4, none⟩ = some (.int .i64 q.ver) ∧ w'.cell? ⟨c, 5, none⟩ = some (.string q.data)))
          (exact ⟨HL.out.i0, HL.out.i1, pc_cells HL.out.pb, pc_cells HL.out.qc⟩)
          (first | (go_at_call 17; refine (awake27 _).mono ?_; rintro e wx ⟨rfl, hbx⟩; replace HL := hid (HL.out.then hbx); clear hbx) | (go_at_call 18; refine (found_ref p q _).mono ?_; rintro e wx ⟨rfl, hbx⟩; replace HL := hid (HL.out.then hbx); clear hbx))
        all_goals
          have HW := hid (hw1.out.trans (HL.out.below.mono hw1.out.size))
          clear HL
          go_wp2
          go_ret
          exact ⟨rfl, HW.out⟩
end Go.Proofs.Ytegekmdechcikaa
