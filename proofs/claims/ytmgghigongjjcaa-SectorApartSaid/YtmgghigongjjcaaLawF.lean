/- The walk of SectorApart. -/
import Derived.Test.YtmgghigongjjcaaLawC
namespace Go.Proofs.Ytmgghigongjjcaa
open Go.RowKit Go.Sort

/-- Where two rows differ, as far as place k. -/
def diffAt (l m : List UInt8) (i : Nat) : Bool := bitAt l i ^^ bitAt m i
def Seen (l m : List UInt8) (k : Nat) (f s : Int) : Prop :=
  (f = -1 ∧ s = -1 ∧ ∀ i, i < k → diffAt l m i = false) ∨
  ∃ a b : Nat, f = a ∧ s = b ∧ a ≤ b ∧ b < k ∧ diffAt l m a = true ∧ diffAt l m b = true ∧ ∀ i, i < k → diffAt l m i = true → a ≤ i ∧ i ≤ b
theorem seen_start (l m : List UInt8) : Seen l m 0 (-1) (-1) := Or.inl ⟨rfl, rfl, fun _ h => absurd h (by omega)⟩
theorem seen_no {l m : List UInt8} {k : Nat} {f s : Int} (h : Seen l m k f s) (hd : diffAt l m k = false) : Seen l m (k + 1) f s := by
  rcases h with ⟨h1, h2, h3⟩ | ⟨a, b, h1, h2, h3, h4, h5, h6, h7⟩
  · refine Or.inl ⟨h1, h2, fun i hi => ?_⟩
    by_cases e : i = k
    · rw [e]; exact hd
    · exact h3 i (by omega)
  · refine Or.inr ⟨a, b, h1, h2, h3, by omega, h5, h6, fun i hi hdi => ?_⟩
    by_cases e : i = k
    · rw [e, hd] at hdi; exact absurd hdi (by decide)
    · exact h7 i (by omega) hdi
theorem seen_first {l m : List UInt8} {k : Nat} {f s : Int} (h : Seen l m k f s) (hd : diffAt l m k = true) (hf : f < 0) : Seen l m (k + 1) k k := by
  rcases h with ⟨h1, h2, h3⟩ | ⟨a, b, h1, h2, h3, h4, h5, h6, h7⟩
  · refine Or.inr ⟨k, k, rfl, rfl, Nat.le_refl _, by omega, hd, hd, fun i hi hdi => ?_⟩
    by_cases e : i = k
    · omega
    · rw [h3 i (by omega)] at hdi; exact absurd hdi (by decide)
  · omega
theorem seen_next {l m : List UInt8} {k : Nat} {f s : Int} (h : Seen l m k f s) (hd : diffAt l m k = true) (hf : ¬ f < 0) : Seen l m (k + 1) f k := by
  rcases h with ⟨h1, h2, h3⟩ | ⟨a, b, h1, h2, h3, h4, h5, h6, h7⟩
  · omega
  · refine Or.inr ⟨a, k, h1, rfl, by omega, by omega, h5, hd, fun i hi hdi => ?_⟩
    by_cases e : i = k
    · omega
    · have := h7 i (by omega) hdi; omega
theorem seen_same {l : List UInt8} {f s : Int} (h : Seen l l 288 f s) : f = -1 := by
  rcases h with ⟨h1, _⟩ | ⟨a, b, h1, h2, h3, h4, h5, h6, h7⟩
  · exact h1
  · unfold diffAt at h5; rw [Bool.xor_self] at h5; exact absurd h5 (by decide)
theorem seen_bits {l m : List UInt8} {i : Nat} (h : diffAt l m i = false) : bitAt l i = bitAt m i := by
  unfold diffAt at h; revert h; cases bitAt l i <;> cases bitAt m i <;> decide
theorem seen_apart {l m : List UInt8} {f s : Int} (h : Seen l m 288 f s) (hl : l.length = 36) (hm : m.length = 36) (hs : sealL (l.take 32) = l) (hs' : sealL (m.take 32) = m) (hne : l ≠ m) : 0 ≤ f ∧ 32 ≤ s - f := by
  rcases h with ⟨h1, h2, h3⟩ | ⟨a, b, h1, h2, h3, h4, h5, h6, h7⟩
  · exact absurd (burst_eq l m hl hm hs hs' 0 (fun i hi _ => seen_bits (h3 i hi))) hne
  · refine ⟨by omega, ?_⟩
    by_cases h32 : a + 32 ≤ b
    · omega
    · refine absurd (burst_eq l m hl hm hs hs' a (fun i hi ho => ?_)) hne
      by_cases hdi : diffAt l m i = true
      · have := h7 i hi hdi; omega
      · exact seen_bits (by simpa using hdi)

theorem and1_u8 (n j : Nat) (h : n < 256) : bits .and .u8 ((n : Int) / 2 ^ j) 1 = if n.testBit j = true then 1 else 0 := by
  have e : ((n : Int) / 2 ^ j) = ((n / 2 ^ j : Nat) : Int) := by simp
  have hl : n / 2 ^ j < 256 := Nat.lt_of_le_of_lt (Nat.div_le_self _ _) h
  show IntKind.u8.wrap ((BitVec.ofInt 8 ((n : Int) / 2 ^ j) &&& BitVec.ofInt 8 1).toNat : Int) = _
  rw [e, BitVec.ofInt_natCast, show BitVec.ofInt 8 1 = 1#8 from rfl, wrap_u8_nat _ (BitVec.ofNat 8 (n / 2 ^ j) &&& 1#8).isLt]
  have h : (BitVec.ofNat 8 (n / 2 ^ j) &&& 1#8).toNat = if n.testBit j = true then 1 else 0 := by
    rw [BitVec.toNat_and, BitVec.toNat_ofNat, Nat.mod_eq_of_lt hl, show (1#8).toNat = 1 from rfl, Nat.and_one_is_mod, Nat.testBit_eq_decide_div_mod_eq]
    simp only [decide_eq_true_eq]
    split <;> omega
  rw [h]; split <;> rfl

theorem sector_same (v f s g ve : Int) (d : List UInt8) (v' f' s' g' ve' : Int) (d' : List UInt8) (h : validB v f s g ve d.length = true) (h' : validB v' f' s' g' ve' d'.length = true) (e : encL v f s g ve d = encL v' f' s' g' ve' d') :
    v = v' ∧ f = f' ∧ s = s' ∧ g = g' ∧ ve = ve' ∧ d = d' := by
  obtain ⟨_, a1, a2, a3, a4, a5, a6⟩ := dec_enc v f s g ve d h
  obtain ⟨_, b1, b2, b3, b4, b5, b6⟩ := dec_enc v' f' s' g' ve' d' h'
  rw [e] at a1 a2 a3 a4 a5 a6
  exact ⟨a1.symm.trans b1, a2.symm.trans b2, a3.symm.trans b3, a4.symm.trans b4, a5.symm.trans b5, a6.symm.trans b6⟩
theorem sector_sealed (v f s g ve : Int) (d : List UInt8) (hv : validB v f s g ve d.length = true) : sealL ((encL v f s g ve d).take 32) = encL v f s g ve d := by
  have hbd := hv
  simp only [validB, decide_eq_true_eq] at hbd
  obtain ⟨_, _, _, _, _, _, _, _, _, _, hd⟩ := hbd
  have ht : (encL v f s g ve d).take 32 = headL v f s g ve d := by
    unfold encL sealL
    rw [List.take_append_of_le_length (by rw [headL_length _ _ _ _ _ _ hd]; omega), List.take_of_length_le (by rw [headL_length _ _ _ _ _ _ hd]; omega)]
  rw [ht]; rfl

theorem sz_a (w : World) (o : Obj) : (w.alloc o).heap.size = w.heap.size + 1 := by simp
theorem sz_d (w : World) : w.drew.heap.size = w.heap.size := rfl
theorem zero_at {w : World} {b : Nat} (h : b = w.heap.size) : Piece (w.alloc (.cells #[.int .i64 0, .int .i64 0, .int .i64 0, .int .i64 0, .int .i64 0, .string { data := #[] }] 23)) b 0 0 0 0 0 { data := #[] } 23 := h ▸ zero_piece w
theorem piece_drew {w : World} {b : Nat} {v f s g ve : Int} {d : ByteArray} {t : TypeId} (h : Piece w b v f s g ve d t) : Piece w.drew b v f s g ve d t := h

set_option maxRecDepth 100000 in
set_option maxHeartbeats 4000000 in
theorem law_apart (v f s g ve : Int) (d : ByteArray) (v2 f2 s2 g2 ve2 : Int) (d2 : ByteArray) (w : World) (hd : d.size ≤ maxLen) (hd2 : d2.size ≤ maxLen) :
    Calls Try.prog 10 #[.agg #[.int .i64 v, .int .i64 f, .int .i64 s, .int .i64 g, .int .i64 ve, .string d], .agg #[.int .i64 v2, .int .i64 f2, .int .i64 s2, .int .i64 g2, .int .i64 ve2, .string d2]] w fun e w' => e = .returned (.bool true) ∧ Below w.heap.size w w' := by
  have hnv := near_valid v f s g ve (nearB d).length (nearB_length d)
  have hnv2 := near_valid v2 f2 s2 g2 ve2 (nearB d2).length (nearB_length d2)
  have HD := hid hd
  have HD2 := hid hd2
  have HV := hid hnv
  have HV2 := hid hnv2
  clear hd hd2 hnv hnv2
  go_enter Try.func10, Try.ntmps10
  go_upto_region 1 with (fail)
  go_cut [5, 6] (fun s5 s6 wx => ∃ b c : Nat, s5 = .pointer (some ⟨b, 0, none⟩) ∧ s6 = .pointer (some ⟨c, 0, none⟩) ∧ b ≠ c ∧ Piece wx b (v % 12) (f % 8) (s % 4) (1 + g % 1099511627775) (1 + ve % 1099511627775) ⟨(nearB d).toArray⟩ 23 ∧ Piece wx c (v2 % 12) (f2 % 8) (s2 % 4) (1 + g2 % 1099511627775) (1 + ve2 % 1099511627775) ⟨(nearB d2).toArray⟩ 23 ∧ Below w.heap.size w wx)
  case first =>
    have hp1 := (piece_new w v f s g ve d 23).alloc (.cells #[.int .i64 v2, .int .i64 f2, .int .i64 s2, .int .i64 g2, .int .i64 ve2, .string d2] 23)
    have hq1 := piece_new (w.alloc (.cells #[.int .i64 v, .int .i64 f, .int .i64 s, .int .i64 g, .int .i64 ve, .string d] 23)) v2 f2 s2 g2 ve2 d2 23
    have hb1 := ((Below.refl w.heap.size w).alloc (Nat.le_refl _) (.cells #[.int .i64 v, .int .i64 f, .int .i64 s, .int .i64 g, .int .i64 ve, .string d] 23)).alloc (by simp) (.cells #[.int .i64 v2, .int .i64 f2, .int .i64 s2, .int .i64 g2, .int .i64 ve2, .string d2] 23)
    rw [show (w.alloc (.cells #[.int .i64 v, .int .i64 f, .int .i64 s, .int .i64 g, .int .i64 ve, .string d] 23)).heap.size = w.heap.size + 1 by simp] at hq1
    have hlt1 := hq1.lt
    generalize (w.alloc _).alloc _ = w1 at hp1 hq1 hb1 hlt1 ⊢
    refine wp_region_held_drew (S := (fun w' => w.heap.size + 1 < w'.heap.size ∧ Below w.heap.size w w' ∧ Piece w' w.heap.size v f s g ve d 23 ∧ Piece w' (w.heap.size + 1) v2 f2 s2 g2 ve2 d2 23)) (by kernel_rfl) ?_ (fun hHeld => ?_)
    · exact ⟨hlt1, hb1.drew, hp1, hq1⟩
    refine take_mk 0 (v := ?vv1) rfl (by kernel_rfl) (by kernel_rfl) (by kernel_rfl) (fun _ _ _ h => h) (Or.inl ⟨by rfl, ?hy1⟩) (by assumption) ?_
    case hy1 => (intro wx hSw; (try dsimp only at hSw); obtain ⟨_, _, xp, xq⟩ := hSw; obtain ⟨c0, c1, c2, c3, c4, c5⟩ := xp.cells; obtain ⟨r0, r1, r2, r3, r4, r5⟩ := xq.cells; go_simp; try with_reducible rfl)
    try simp only [Act.put, List.setIfInBounds_toArray, List.set_cons_zero, List.set_cons_succ]
    refine take_mk 2 (v := ?vv2) rfl (by kernel_rfl) (by kernel_rfl) (by kernel_rfl) (fun _ _ _ h => h) (Or.inl ⟨by rfl, ?hy2⟩) (by assumption) ?_
    case hy2 => (intro wx hSw; (try dsimp only at hSw); obtain ⟨_, _, xp, xq⟩ := hSw; obtain ⟨c0, c1, c2, c3, c4, c5⟩ := xp.cells; obtain ⟨r0, r1, r2, r3, r4, r5⟩ := xq.cells; go_simp; try with_reducible rfl)
    try simp only [Act.put, List.setIfInBounds_toArray, List.set_cons_zero, List.set_cons_succ]
    refine wpAnyH_ready (rs := [1, 4, 5]) (by kernel_rfl) (by simp) ?_
    refine cons_mk rfl (fun K hK => ?_) ?_
    · go_simp
      refine (near_b _ _ _ _ _ _ _ HD.out).mono ?_; rintro e wx ⟨rfl, hbA⟩; have hzA := hbA.size; (try simp at hzA); go_simp
      refine hK.out _ _ ?_ (fun hHeld => ?_)
      · (obtain ⟨al, ab, ap, aq⟩ := hHeld; exact ⟨Nat.lt_of_lt_of_le al hbA.size, ab.trans (hbA.mono (by omega)), ap.below hbA (by omega), aq.below hbA (by omega)⟩)
      clear hK K
      try simp only [Act.put, List.setIfInBounds_toArray, List.set_cons_zero, List.set_cons_succ]
      refine wpAnyH_ready (rs := [3, 4, 5]) (by kernel_rfl) (by simp) ?_
      refine cons_mk rfl (fun K hK => ?_) ?_
      · go_simp
        refine (near_b _ _ _ _ _ _ _ HD2.out).mono ?_; rintro e wx ⟨rfl, hbB⟩; have hzB := hbB.size; (try simp at hzB); go_simp
        refine hK.out _ _ ?_ (fun hHeld => ?_)
        · (obtain ⟨al, ab, ap, aq⟩ := hHeld; exact ⟨Nat.lt_of_lt_of_le al hbB.size, ab.trans (hbB.mono (by omega)), ap.below hbB (by omega), aq.below hbB (by omega)⟩)
        clear hK K
        try simp only [Act.put, List.setIfInBounds_toArray, List.set_cons_zero, List.set_cons_succ]
        refine wpAnyH_ready (rs := [4, 5]) (by kernel_rfl) (by simp) ?_
        refine cons_mk rfl (fun K hK => ?_) ?_
        · go_simp
          refine hK.out _ _ ?_ (fun hHeld => ?_)
          · (obtain ⟨al, ab, ap, aq⟩ := hHeld; exact ⟨by simp; omega, ab.alloc (by omega) _, ap.alloc _, aq.alloc _⟩)
          clear hK K
          try simp only [Act.put, List.setIfInBounds_toArray, List.set_cons_zero, List.set_cons_succ]
          refine wpAnyH_ready (rs := [5]) (by kernel_rfl) (by simp) ?_
          refine cons_mk rfl (fun K hK => ?_) ?_
          · go_simp
            refine hK.out _ _ ?_ (fun hHeld => ?_)
            · (obtain ⟨al, ab, ap, aq⟩ := hHeld; exact ⟨by simp; omega, ab.alloc (by omega) _, ap.alloc _, aq.alloc _⟩)
            clear hK K
            try simp only [Act.put, List.setIfInBounds_toArray, List.set_cons_zero, List.set_cons_succ]
            refine wpAnyH_ready (rs := [6]) (by kernel_rfl) (by simp) ?_
            refine cons_mk rfl (fun K hK => ?_) ?_
            · (rw [if_pos (by rfl)]; refine wp_store_piece 23 (.tmp 5) (.tmp 15) rfl _ _ _ _ _ _ _ rfl rfl (v' := 0) (f' := 0) (s' := 0) (g' := 0) (ve' := 0) (d' := { data := #[] }) (t := 23) (Piece.alloc (zero_at (by (first | omega | (simp only [sz_a]; done) | (simp only [sz_a]; omega) | (simp only [sz_d]; omega) | (simp only [sz_d, sz_a]; done) | (simp only [sz_d, sz_a]; omega)))) _) piece_size ?_; intro wq hpq hgr)
              refine hK.out _ _ ?_ (fun hHeld => ?_)
              · (obtain ⟨al, ab, ap, aq⟩ := hHeld; exact ⟨Nat.lt_of_lt_of_le al hgr.size, below_grown ab hgr (by omega) (by omega), ap.grown hgr (by omega), aq.grown hgr (by omega)⟩)
              clear hK K
              try simp only [Act.put]
              refine wpAnyH_ready (rs := [7]) (by kernel_rfl) (by simp) ?_
              refine cons_mk rfl (fun K hK => ?_) ?_
              · (rw [if_pos (by rfl)]; refine wp_store_piece 23 (.tmp 6) (.tmp 17) rfl _ _ _ _ _ _ _ rfl rfl (v' := 0) (f' := 0) (s' := 0) (g' := 0) (ve' := 0) (d' := { data := #[] }) (t := 23) (Piece.grown (zero_at (by (first | omega | (simp only [sz_a]; done) | (simp only [sz_a]; omega) | (simp only [sz_d]; omega) | (simp only [sz_d, sz_a]; done) | (simp only [sz_d, sz_a]; omega)))) hgr (by (first | omega | (simp only [sz_a]; done) | (simp only [sz_a]; omega) | (simp only [sz_d]; omega) | (simp only [sz_d, sz_a]; done) | (simp only [sz_d, sz_a]; omega)))) piece_size ?_; intro wq2 hpq2 hgr2)
                refine hK.out _ _ ?_ (fun hHeld => ?_)
                · (obtain ⟨al, ab, ap, aq⟩ := hHeld; exact ⟨Nat.lt_of_lt_of_le al hgr2.size, below_grown ab hgr2 (by omega) (by omega), ap.grown hgr2 (by omega), aq.grown hgr2 (by omega)⟩)
                clear hK K
                try simp only [Act.put]
                refine wpAnyH_done (by kernel_rfl) ?_ _
                obtain ⟨al, ab, ap, aq⟩ := hHeld
                go_wp2_with fail
                go_meet
                exact ⟨_, _, rfl, rfl, by (first | omega | (simp only [sz_a]; done) | (simp only [sz_a]; omega) | (simp only [sz_d]; omega) | (simp only [sz_d, sz_a]; done) | (simp only [sz_d, sz_a]; omega)), hpq.grown hgr2 (by (first | omega | (simp only [sz_a]; done) | (simp only [sz_a]; omega) | (simp only [sz_d]; omega) | (simp only [sz_d, sz_a]; done) | (simp only [sz_d, sz_a]; omega))), hpq2, ab⟩
              exact AllReadyH.nil
            exact AllReadyH.nil
          exact AllReadyH.nil
        refine cons_mk rfl (fun K hK => ?_) ?_
        · go_simp
          refine hK.out _ _ ?_ (fun hHeld => ?_)
          · (obtain ⟨al, ab, ap, aq⟩ := hHeld; exact ⟨by simp; omega, ab.alloc (by omega) _, ap.alloc _, aq.alloc _⟩)
          clear hK K
          try simp only [Act.put, List.setIfInBounds_toArray, List.set_cons_zero, List.set_cons_succ]
          refine wpAnyH_ready (rs := [4]) (by kernel_rfl) (by simp) ?_
          refine cons_mk rfl (fun K hK => ?_) ?_
          · go_simp
            refine hK.out _ _ ?_ (fun hHeld => ?_)
            · (obtain ⟨al, ab, ap, aq⟩ := hHeld; exact ⟨by simp; omega, ab.alloc (by omega) _, ap.alloc _, aq.alloc _⟩)
            clear hK K
            try simp only [Act.put, List.setIfInBounds_toArray, List.set_cons_zero, List.set_cons_succ]
            refine wpAnyH_ready (rs := [6]) (by kernel_rfl) (by simp) ?_
            refine cons_mk rfl (fun K hK => ?_) ?_
            · (rw [if_pos (by rfl)]; refine wp_store_piece 23 (.tmp 5) (.tmp 15) rfl _ _ _ _ _ _ _ rfl rfl (v' := 0) (f' := 0) (s' := 0) (g' := 0) (ve' := 0) (d' := { data := #[] }) (t := 23) (zero_at (by (first | omega | (simp only [sz_a]; done) | (simp only [sz_a]; omega) | (simp only [sz_d]; omega) | (simp only [sz_d, sz_a]; done) | (simp only [sz_d, sz_a]; omega)))) piece_size ?_; intro wq hpq hgr)
              refine hK.out _ _ ?_ (fun hHeld => ?_)
              · (obtain ⟨al, ab, ap, aq⟩ := hHeld; exact ⟨Nat.lt_of_lt_of_le al hgr.size, below_grown ab hgr (by omega) (by omega), ap.grown hgr (by omega), aq.grown hgr (by omega)⟩)
              clear hK K
              try simp only [Act.put]
              refine wpAnyH_ready (rs := [7]) (by kernel_rfl) (by simp) ?_
              refine cons_mk rfl (fun K hK => ?_) ?_
              · (rw [if_pos (by rfl)]; refine wp_store_piece 23 (.tmp 6) (.tmp 17) rfl _ _ _ _ _ _ _ rfl rfl (v' := 0) (f' := 0) (s' := 0) (g' := 0) (ve' := 0) (d' := { data := #[] }) (t := 23) (Piece.grown (Piece.alloc (zero_at (by (first | omega | (simp only [sz_a]; done) | (simp only [sz_a]; omega) | (simp only [sz_d]; omega) | (simp only [sz_d, sz_a]; done) | (simp only [sz_d, sz_a]; omega)))) _) hgr (by (first | omega | (simp only [sz_a]; done) | (simp only [sz_a]; omega) | (simp only [sz_d]; omega) | (simp only [sz_d, sz_a]; done) | (simp only [sz_d, sz_a]; omega)))) piece_size ?_; intro wq2 hpq2 hgr2)
                refine hK.out _ _ ?_ (fun hHeld => ?_)
                · (obtain ⟨al, ab, ap, aq⟩ := hHeld; exact ⟨Nat.lt_of_lt_of_le al hgr2.size, below_grown ab hgr2 (by omega) (by omega), ap.grown hgr2 (by omega), aq.grown hgr2 (by omega)⟩)
                clear hK K
                try simp only [Act.put]
                refine wpAnyH_done (by kernel_rfl) ?_ _
                obtain ⟨al, ab, ap, aq⟩ := hHeld
                go_wp2_with fail
                go_meet
                exact ⟨_, _, rfl, rfl, by (first | omega | (simp only [sz_a]; done) | (simp only [sz_a]; omega) | (simp only [sz_d]; omega) | (simp only [sz_d, sz_a]; done) | (simp only [sz_d, sz_a]; omega)), hpq.grown hgr2 (by (first | omega | (simp only [sz_a]; done) | (simp only [sz_a]; omega) | (simp only [sz_d]; omega) | (simp only [sz_d, sz_a]; done) | (simp only [sz_d, sz_a]; omega))), hpq2, ab⟩
              exact AllReadyH.nil
            exact AllReadyH.nil
          exact AllReadyH.nil
        exact AllReadyH.nil
      refine cons_mk rfl (fun K hK => ?_) ?_
      · go_simp
        refine hK.out _ _ ?_ (fun hHeld => ?_)
        · (obtain ⟨al, ab, ap, aq⟩ := hHeld; exact ⟨by simp; omega, ab.alloc (by omega) _, ap.alloc _, aq.alloc _⟩)
        clear hK K
        try simp only [Act.put, List.setIfInBounds_toArray, List.set_cons_zero, List.set_cons_succ]
        refine wpAnyH_ready (rs := [3, 5]) (by kernel_rfl) (by simp) ?_
        refine cons_mk rfl (fun K hK => ?_) ?_
        · go_simp
          refine (near_b _ _ _ _ _ _ _ HD2.out).mono ?_; rintro e wx ⟨rfl, hbB⟩; have hzB := hbB.size; (try simp at hzB); go_simp
          refine hK.out _ _ ?_ (fun hHeld => ?_)
          · (obtain ⟨al, ab, ap, aq⟩ := hHeld; exact ⟨Nat.lt_of_lt_of_le al hbB.size, ab.trans (hbB.mono (by omega)), ap.below hbB (by omega), aq.below hbB (by omega)⟩)
          clear hK K
          try simp only [Act.put, List.setIfInBounds_toArray, List.set_cons_zero, List.set_cons_succ]
          refine wpAnyH_ready (rs := [5]) (by kernel_rfl) (by simp) ?_
          refine cons_mk rfl (fun K hK => ?_) ?_
          · go_simp
            refine hK.out _ _ ?_ (fun hHeld => ?_)
            · (obtain ⟨al, ab, ap, aq⟩ := hHeld; exact ⟨by simp; omega, ab.alloc (by omega) _, ap.alloc _, aq.alloc _⟩)
            clear hK K
            try simp only [Act.put, List.setIfInBounds_toArray, List.set_cons_zero, List.set_cons_succ]
            refine wpAnyH_ready (rs := [6]) (by kernel_rfl) (by simp) ?_
            refine cons_mk rfl (fun K hK => ?_) ?_
            · (rw [if_pos (by rfl)]; refine wp_store_piece 23 (.tmp 5) (.tmp 15) rfl _ _ _ _ _ _ _ rfl rfl (v' := 0) (f' := 0) (s' := 0) (g' := 0) (ve' := 0) (d' := { data := #[] }) (t := 23) (Piece.alloc (Piece.below (zero_at (by (first | omega | (simp only [sz_a]; done) | (simp only [sz_a]; omega) | (simp only [sz_d]; omega) | (simp only [sz_d, sz_a]; done) | (simp only [sz_d, sz_a]; omega)))) hbB (by (first | omega | (simp only [sz_a]; done) | (simp only [sz_a]; omega) | (simp only [sz_d]; omega) | (simp only [sz_d, sz_a]; done) | (simp only [sz_d, sz_a]; omega)))) _) piece_size ?_; intro wq hpq hgr)
              refine hK.out _ _ ?_ (fun hHeld => ?_)
              · (obtain ⟨al, ab, ap, aq⟩ := hHeld; exact ⟨Nat.lt_of_lt_of_le al hgr.size, below_grown ab hgr (by omega) (by omega), ap.grown hgr (by omega), aq.grown hgr (by omega)⟩)
              clear hK K
              try simp only [Act.put]
              refine wpAnyH_ready (rs := [7]) (by kernel_rfl) (by simp) ?_
              refine cons_mk rfl (fun K hK => ?_) ?_
              · (rw [if_pos (by rfl)]; refine wp_store_piece 23 (.tmp 6) (.tmp 17) rfl _ _ _ _ _ _ _ rfl rfl (v' := 0) (f' := 0) (s' := 0) (g' := 0) (ve' := 0) (d' := { data := #[] }) (t := 23) (Piece.grown (zero_at (by (first | omega | (simp only [sz_a]; done) | (simp only [sz_a]; omega) | (simp only [sz_d]; omega) | (simp only [sz_d, sz_a]; done) | (simp only [sz_d, sz_a]; omega)))) hgr (by (first | omega | (simp only [sz_a]; done) | (simp only [sz_a]; omega) | (simp only [sz_d]; omega) | (simp only [sz_d, sz_a]; done) | (simp only [sz_d, sz_a]; omega)))) piece_size ?_; intro wq2 hpq2 hgr2)
                refine hK.out _ _ ?_ (fun hHeld => ?_)
                · (obtain ⟨al, ab, ap, aq⟩ := hHeld; exact ⟨Nat.lt_of_lt_of_le al hgr2.size, below_grown ab hgr2 (by omega) (by omega), ap.grown hgr2 (by omega), aq.grown hgr2 (by omega)⟩)
                clear hK K
                try simp only [Act.put]
                refine wpAnyH_done (by kernel_rfl) ?_ _
                obtain ⟨al, ab, ap, aq⟩ := hHeld
                go_wp2_with fail
                go_meet
                exact ⟨_, _, rfl, rfl, by (first | omega | (simp only [sz_a]; done) | (simp only [sz_a]; omega) | (simp only [sz_d]; omega) | (simp only [sz_d, sz_a]; done) | (simp only [sz_d, sz_a]; omega)), hpq.grown hgr2 (by (first | omega | (simp only [sz_a]; done) | (simp only [sz_a]; omega) | (simp only [sz_d]; omega) | (simp only [sz_d, sz_a]; done) | (simp only [sz_d, sz_a]; omega))), hpq2, ab⟩
              exact AllReadyH.nil
            exact AllReadyH.nil
          exact AllReadyH.nil
        refine cons_mk rfl (fun K hK => ?_) ?_
        · go_simp
          refine hK.out _ _ ?_ (fun hHeld => ?_)
          · (obtain ⟨al, ab, ap, aq⟩ := hHeld; exact ⟨by simp; omega, ab.alloc (by omega) _, ap.alloc _, aq.alloc _⟩)
          clear hK K
          try simp only [Act.put, List.setIfInBounds_toArray, List.set_cons_zero, List.set_cons_succ]
          refine wpAnyH_ready (rs := [3]) (by kernel_rfl) (by simp) ?_
          refine cons_mk rfl (fun K hK => ?_) ?_
          · go_simp
            refine (near_b _ _ _ _ _ _ _ HD2.out).mono ?_; rintro e wx ⟨rfl, hbB⟩; have hzB := hbB.size; (try simp at hzB); go_simp
            refine hK.out _ _ ?_ (fun hHeld => ?_)
            · (obtain ⟨al, ab, ap, aq⟩ := hHeld; exact ⟨Nat.lt_of_lt_of_le al hbB.size, ab.trans (hbB.mono (by omega)), ap.below hbB (by omega), aq.below hbB (by omega)⟩)
            clear hK K
            try simp only [Act.put, List.setIfInBounds_toArray, List.set_cons_zero, List.set_cons_succ]
            refine wpAnyH_ready (rs := [6]) (by kernel_rfl) (by simp) ?_
            refine cons_mk rfl (fun K hK => ?_) ?_
            · (rw [if_pos (by rfl)]; refine wp_store_piece 23 (.tmp 5) (.tmp 15) rfl _ _ _ _ _ _ _ rfl rfl (v' := 0) (f' := 0) (s' := 0) (g' := 0) (ve' := 0) (d' := { data := #[] }) (t := 23) (Piece.below (Piece.alloc (zero_at (by (first | omega | (simp only [sz_a]; done) | (simp only [sz_a]; omega) | (simp only [sz_d]; omega) | (simp only [sz_d, sz_a]; done) | (simp only [sz_d, sz_a]; omega)))) _) hbB (by (first | omega | (simp only [sz_a]; done) | (simp only [sz_a]; omega) | (simp only [sz_d]; omega) | (simp only [sz_d, sz_a]; done) | (simp only [sz_d, sz_a]; omega)))) piece_size ?_; intro wq hpq hgr)
              refine hK.out _ _ ?_ (fun hHeld => ?_)
              · (obtain ⟨al, ab, ap, aq⟩ := hHeld; exact ⟨Nat.lt_of_lt_of_le al hgr.size, below_grown ab hgr (by omega) (by omega), ap.grown hgr (by omega), aq.grown hgr (by omega)⟩)
              clear hK K
              try simp only [Act.put]
              refine wpAnyH_ready (rs := [7]) (by kernel_rfl) (by simp) ?_
              refine cons_mk rfl (fun K hK => ?_) ?_
              · (rw [if_pos (by rfl)]; refine wp_store_piece 23 (.tmp 6) (.tmp 17) rfl _ _ _ _ _ _ _ rfl rfl (v' := 0) (f' := 0) (s' := 0) (g' := 0) (ve' := 0) (d' := { data := #[] }) (t := 23) (Piece.grown (Piece.below (zero_at (by (first | omega | (simp only [sz_a]; done) | (simp only [sz_a]; omega) | (simp only [sz_d]; omega) | (simp only [sz_d, sz_a]; done) | (simp only [sz_d, sz_a]; omega)))) hbB (by (first | omega | (simp only [sz_a]; done) | (simp only [sz_a]; omega) | (simp only [sz_d]; omega) | (simp only [sz_d, sz_a]; done) | (simp only [sz_d, sz_a]; omega)))) hgr (by (first | omega | (simp only [sz_a]; done) | (simp only [sz_a]; omega) | (simp only [sz_d]; omega) | (simp only [sz_d, sz_a]; done) | (simp only [sz_d, sz_a]; omega)))) piece_size ?_; intro wq2 hpq2 hgr2)
                refine hK.out _ _ ?_ (fun hHeld => ?_)
                · (obtain ⟨al, ab, ap, aq⟩ := hHeld; exact ⟨Nat.lt_of_lt_of_le al hgr2.size, below_grown ab hgr2 (by omega) (by omega), ap.grown hgr2 (by omega), aq.grown hgr2 (by omega)⟩)
                clear hK K
                try simp only [Act.put]
                refine wpAnyH_done (by kernel_rfl) ?_ _
                obtain ⟨al, ab, ap, aq⟩ := hHeld
                go_wp2_with fail
                go_meet
                exact ⟨_, _, rfl, rfl, by (first | omega | (simp only [sz_a]; done) | (simp only [sz_a]; omega) | (simp only [sz_d]; omega) | (simp only [sz_d, sz_a]; done) | (simp only [sz_d, sz_a]; omega)), hpq.grown hgr2 (by (first | omega | (simp only [sz_a]; done) | (simp only [sz_a]; omega) | (simp only [sz_d]; omega) | (simp only [sz_d, sz_a]; done) | (simp only [sz_d, sz_a]; omega))), hpq2, ab⟩
              exact AllReadyH.nil
            exact AllReadyH.nil
          exact AllReadyH.nil
        exact AllReadyH.nil
      refine cons_mk rfl (fun K hK => ?_) ?_
      · go_simp
        refine hK.out _ _ ?_ (fun hHeld => ?_)
        · (obtain ⟨al, ab, ap, aq⟩ := hHeld; exact ⟨by simp; omega, ab.alloc (by omega) _, ap.alloc _, aq.alloc _⟩)
        clear hK K
        try simp only [Act.put, List.setIfInBounds_toArray, List.set_cons_zero, List.set_cons_succ]
        refine wpAnyH_ready (rs := [3, 4]) (by kernel_rfl) (by simp) ?_
        refine cons_mk rfl (fun K hK => ?_) ?_
        · go_simp
          refine (near_b _ _ _ _ _ _ _ HD2.out).mono ?_; rintro e wx ⟨rfl, hbB⟩; have hzB := hbB.size; (try simp at hzB); go_simp
          refine hK.out _ _ ?_ (fun hHeld => ?_)
          · (obtain ⟨al, ab, ap, aq⟩ := hHeld; exact ⟨Nat.lt_of_lt_of_le al hbB.size, ab.trans (hbB.mono (by omega)), ap.below hbB (by omega), aq.below hbB (by omega)⟩)
          clear hK K
          try simp only [Act.put, List.setIfInBounds_toArray, List.set_cons_zero, List.set_cons_succ]
          refine wpAnyH_ready (rs := [4]) (by kernel_rfl) (by simp) ?_
          refine cons_mk rfl (fun K hK => ?_) ?_
          · go_simp
            refine hK.out _ _ ?_ (fun hHeld => ?_)
            · (obtain ⟨al, ab, ap, aq⟩ := hHeld; exact ⟨by simp; omega, ab.alloc (by omega) _, ap.alloc _, aq.alloc _⟩)
            clear hK K
            try simp only [Act.put, List.setIfInBounds_toArray, List.set_cons_zero, List.set_cons_succ]
            refine wpAnyH_ready (rs := [6]) (by kernel_rfl) (by simp) ?_
            refine cons_mk rfl (fun K hK => ?_) ?_
            · (rw [if_pos (by rfl)]; refine wp_store_piece 23 (.tmp 5) (.tmp 15) rfl _ _ _ _ _ _ _ rfl rfl (v' := 0) (f' := 0) (s' := 0) (g' := 0) (ve' := 0) (d' := { data := #[] }) (t := 23) (zero_at (by (first | omega | (simp only [sz_a]; done) | (simp only [sz_a]; omega) | (simp only [sz_d]; omega) | (simp only [sz_d, sz_a]; done) | (simp only [sz_d, sz_a]; omega)))) piece_size ?_; intro wq hpq hgr)
              refine hK.out _ _ ?_ (fun hHeld => ?_)
              · (obtain ⟨al, ab, ap, aq⟩ := hHeld; exact ⟨Nat.lt_of_lt_of_le al hgr.size, below_grown ab hgr (by omega) (by omega), ap.grown hgr (by omega), aq.grown hgr (by omega)⟩)
              clear hK K
              try simp only [Act.put]
              refine wpAnyH_ready (rs := [7]) (by kernel_rfl) (by simp) ?_
              refine cons_mk rfl (fun K hK => ?_) ?_
              · (rw [if_pos (by rfl)]; refine wp_store_piece 23 (.tmp 6) (.tmp 17) rfl _ _ _ _ _ _ _ rfl rfl (v' := 0) (f' := 0) (s' := 0) (g' := 0) (ve' := 0) (d' := { data := #[] }) (t := 23) (Piece.grown (Piece.alloc (Piece.below (zero_at (by (first | omega | (simp only [sz_a]; done) | (simp only [sz_a]; omega) | (simp only [sz_d]; omega) | (simp only [sz_d, sz_a]; done) | (simp only [sz_d, sz_a]; omega)))) hbB (by (first | omega | (simp only [sz_a]; done) | (simp only [sz_a]; omega) | (simp only [sz_d]; omega) | (simp only [sz_d, sz_a]; done) | (simp only [sz_d, sz_a]; omega)))) _) hgr (by (first | omega | (simp only [sz_a]; done) | (simp only [sz_a]; omega) | (simp only [sz_d]; omega) | (simp only [sz_d, sz_a]; done) | (simp only [sz_d, sz_a]; omega)))) piece_size ?_; intro wq2 hpq2 hgr2)
                refine hK.out _ _ ?_ (fun hHeld => ?_)
                · (obtain ⟨al, ab, ap, aq⟩ := hHeld; exact ⟨Nat.lt_of_lt_of_le al hgr2.size, below_grown ab hgr2 (by omega) (by omega), ap.grown hgr2 (by omega), aq.grown hgr2 (by omega)⟩)
                clear hK K
                try simp only [Act.put]
                refine wpAnyH_done (by kernel_rfl) ?_ _
                obtain ⟨al, ab, ap, aq⟩ := hHeld
                go_wp2_with fail
                go_meet
                exact ⟨_, _, rfl, rfl, by (first | omega | (simp only [sz_a]; done) | (simp only [sz_a]; omega) | (simp only [sz_d]; omega) | (simp only [sz_d, sz_a]; done) | (simp only [sz_d, sz_a]; omega)), hpq.grown hgr2 (by (first | omega | (simp only [sz_a]; done) | (simp only [sz_a]; omega) | (simp only [sz_d]; omega) | (simp only [sz_d, sz_a]; done) | (simp only [sz_d, sz_a]; omega))), hpq2, ab⟩
              exact AllReadyH.nil
            exact AllReadyH.nil
          exact AllReadyH.nil
        refine cons_mk rfl (fun K hK => ?_) ?_
        · go_simp
          refine hK.out _ _ ?_ (fun hHeld => ?_)
          · (obtain ⟨al, ab, ap, aq⟩ := hHeld; exact ⟨by simp; omega, ab.alloc (by omega) _, ap.alloc _, aq.alloc _⟩)
          clear hK K
          try simp only [Act.put, List.setIfInBounds_toArray, List.set_cons_zero, List.set_cons_succ]
          refine wpAnyH_ready (rs := [3]) (by kernel_rfl) (by simp) ?_
          refine cons_mk rfl (fun K hK => ?_) ?_
          · go_simp
            refine (near_b _ _ _ _ _ _ _ HD2.out).mono ?_; rintro e wx ⟨rfl, hbB⟩; have hzB := hbB.size; (try simp at hzB); go_simp
            refine hK.out _ _ ?_ (fun hHeld => ?_)
            · (obtain ⟨al, ab, ap, aq⟩ := hHeld; exact ⟨Nat.lt_of_lt_of_le al hbB.size, ab.trans (hbB.mono (by omega)), ap.below hbB (by omega), aq.below hbB (by omega)⟩)
            clear hK K
            try simp only [Act.put, List.setIfInBounds_toArray, List.set_cons_zero, List.set_cons_succ]
            refine wpAnyH_ready (rs := [6]) (by kernel_rfl) (by simp) ?_
            refine cons_mk rfl (fun K hK => ?_) ?_
            · (rw [if_pos (by rfl)]; refine wp_store_piece 23 (.tmp 5) (.tmp 15) rfl _ _ _ _ _ _ _ rfl rfl (v' := 0) (f' := 0) (s' := 0) (g' := 0) (ve' := 0) (d' := { data := #[] }) (t := 23) (Piece.below (zero_at (by (first | omega | (simp only [sz_a]; done) | (simp only [sz_a]; omega) | (simp only [sz_d]; omega) | (simp only [sz_d, sz_a]; done) | (simp only [sz_d, sz_a]; omega)))) hbB (by (first | omega | (simp only [sz_a]; done) | (simp only [sz_a]; omega) | (simp only [sz_d]; omega) | (simp only [sz_d, sz_a]; done) | (simp only [sz_d, sz_a]; omega)))) piece_size ?_; intro wq hpq hgr)
              refine hK.out _ _ ?_ (fun hHeld => ?_)
              · (obtain ⟨al, ab, ap, aq⟩ := hHeld; exact ⟨Nat.lt_of_lt_of_le al hgr.size, below_grown ab hgr (by omega) (by omega), ap.grown hgr (by omega), aq.grown hgr (by omega)⟩)
              clear hK K
              try simp only [Act.put]
              refine wpAnyH_ready (rs := [7]) (by kernel_rfl) (by simp) ?_
              refine cons_mk rfl (fun K hK => ?_) ?_
              · (rw [if_pos (by rfl)]; refine wp_store_piece 23 (.tmp 6) (.tmp 17) rfl _ _ _ _ _ _ _ rfl rfl (v' := 0) (f' := 0) (s' := 0) (g' := 0) (ve' := 0) (d' := { data := #[] }) (t := 23) (Piece.grown (Piece.below (Piece.alloc (zero_at (by (first | omega | (simp only [sz_a]; done) | (simp only [sz_a]; omega) | (simp only [sz_d]; omega) | (simp only [sz_d, sz_a]; done) | (simp only [sz_d, sz_a]; omega)))) _) hbB (by (first | omega | (simp only [sz_a]; done) | (simp only [sz_a]; omega) | (simp only [sz_d]; omega) | (simp only [sz_d, sz_a]; done) | (simp only [sz_d, sz_a]; omega)))) hgr (by (first | omega | (simp only [sz_a]; done) | (simp only [sz_a]; omega) | (simp only [sz_d]; omega) | (simp only [sz_d, sz_a]; done) | (simp only [sz_d, sz_a]; omega)))) piece_size ?_; intro wq2 hpq2 hgr2)
                refine hK.out _ _ ?_ (fun hHeld => ?_)
                · (obtain ⟨al, ab, ap, aq⟩ := hHeld; exact ⟨Nat.lt_of_lt_of_le al hgr2.size, below_grown ab hgr2 (by omega) (by omega), ap.grown hgr2 (by omega), aq.grown hgr2 (by omega)⟩)
                clear hK K
                try simp only [Act.put]
                refine wpAnyH_done (by kernel_rfl) ?_ _
                obtain ⟨al, ab, ap, aq⟩ := hHeld
                go_wp2_with fail
                go_meet
                exact ⟨_, _, rfl, rfl, by (first | omega | (simp only [sz_a]; done) | (simp only [sz_a]; omega) | (simp only [sz_d]; omega) | (simp only [sz_d, sz_a]; done) | (simp only [sz_d, sz_a]; omega)), hpq.grown hgr2 (by (first | omega | (simp only [sz_a]; done) | (simp only [sz_a]; omega) | (simp only [sz_d]; omega) | (simp only [sz_d, sz_a]; done) | (simp only [sz_d, sz_a]; omega))), hpq2, ab⟩
              exact AllReadyH.nil
            exact AllReadyH.nil
          exact AllReadyH.nil
        exact AllReadyH.nil
      exact AllReadyH.nil
    refine cons_mk rfl (fun K hK => ?_) ?_
    · go_simp
      refine hK.out _ _ ?_ (fun hHeld => ?_)
      · (obtain ⟨al, ab, ap, aq⟩ := hHeld; exact ⟨by simp; omega, ab.alloc (by omega) _, ap.alloc _, aq.alloc _⟩)
      clear hK K
      try simp only [Act.put, List.setIfInBounds_toArray, List.set_cons_zero, List.set_cons_succ]
      refine wpAnyH_ready (rs := [1, 5]) (by kernel_rfl) (by simp) ?_
      refine cons_mk rfl (fun K hK => ?_) ?_
      · go_simp
        refine (near_b _ _ _ _ _ _ _ HD.out).mono ?_; rintro e wx ⟨rfl, hbA⟩; have hzA := hbA.size; (try simp at hzA); go_simp
        refine hK.out _ _ ?_ (fun hHeld => ?_)
        · (obtain ⟨al, ab, ap, aq⟩ := hHeld; exact ⟨Nat.lt_of_lt_of_le al hbA.size, ab.trans (hbA.mono (by omega)), ap.below hbA (by omega), aq.below hbA (by omega)⟩)
        clear hK K
        try simp only [Act.put, List.setIfInBounds_toArray, List.set_cons_zero, List.set_cons_succ]
        refine wpAnyH_ready (rs := [3, 5]) (by kernel_rfl) (by simp) ?_
        refine cons_mk rfl (fun K hK => ?_) ?_
        · go_simp
          refine (near_b _ _ _ _ _ _ _ HD2.out).mono ?_; rintro e wx ⟨rfl, hbB⟩; have hzB := hbB.size; (try simp at hzB); go_simp
          refine hK.out _ _ ?_ (fun hHeld => ?_)
          · (obtain ⟨al, ab, ap, aq⟩ := hHeld; exact ⟨Nat.lt_of_lt_of_le al hbB.size, ab.trans (hbB.mono (by omega)), ap.below hbB (by omega), aq.below hbB (by omega)⟩)
          clear hK K
          try simp only [Act.put, List.setIfInBounds_toArray, List.set_cons_zero, List.set_cons_succ]
          refine wpAnyH_ready (rs := [5]) (by kernel_rfl) (by simp) ?_
          refine cons_mk rfl (fun K hK => ?_) ?_
          · go_simp
            refine hK.out _ _ ?_ (fun hHeld => ?_)
            · (obtain ⟨al, ab, ap, aq⟩ := hHeld; exact ⟨by simp; omega, ab.alloc (by omega) _, ap.alloc _, aq.alloc _⟩)
            clear hK K
            try simp only [Act.put, List.setIfInBounds_toArray, List.set_cons_zero, List.set_cons_succ]
            refine wpAnyH_ready (rs := [6]) (by kernel_rfl) (by simp) ?_
            refine cons_mk rfl (fun K hK => ?_) ?_
            · (rw [if_pos (by rfl)]; refine wp_store_piece 23 (.tmp 5) (.tmp 15) rfl _ _ _ _ _ _ _ rfl rfl (v' := 0) (f' := 0) (s' := 0) (g' := 0) (ve' := 0) (d' := { data := #[] }) (t := 23) (Piece.alloc (Piece.below (Piece.below (piece_drew (zero_at (by (first | omega | (simp only [sz_a]; done) | (simp only [sz_a]; omega) | (simp only [sz_d]; omega) | (simp only [sz_d, sz_a]; done) | (simp only [sz_d, sz_a]; omega))))) hbA (by (first | omega | (simp only [sz_a]; done) | (simp only [sz_a]; omega) | (simp only [sz_d]; omega) | (simp only [sz_d, sz_a]; done) | (simp only [sz_d, sz_a]; omega)))) hbB (by (first | omega | (simp only [sz_a]; done) | (simp only [sz_a]; omega) | (simp only [sz_d]; omega) | (simp only [sz_d, sz_a]; done) | (simp only [sz_d, sz_a]; omega)))) _) piece_size ?_; intro wq hpq hgr)
              refine hK.out _ _ ?_ (fun hHeld => ?_)
              · (obtain ⟨al, ab, ap, aq⟩ := hHeld; exact ⟨Nat.lt_of_lt_of_le al hgr.size, below_grown ab hgr (by omega) (by omega), ap.grown hgr (by omega), aq.grown hgr (by omega)⟩)
              clear hK K
              try simp only [Act.put]
              refine wpAnyH_ready (rs := [7]) (by kernel_rfl) (by simp) ?_
              refine cons_mk rfl (fun K hK => ?_) ?_
              · (rw [if_pos (by rfl)]; refine wp_store_piece 23 (.tmp 6) (.tmp 17) rfl _ _ _ _ _ _ _ rfl rfl (v' := 0) (f' := 0) (s' := 0) (g' := 0) (ve' := 0) (d' := { data := #[] }) (t := 23) (Piece.grown (zero_at (by (first | omega | (simp only [sz_a]; done) | (simp only [sz_a]; omega) | (simp only [sz_d]; omega) | (simp only [sz_d, sz_a]; done) | (simp only [sz_d, sz_a]; omega)))) hgr (by (first | omega | (simp only [sz_a]; done) | (simp only [sz_a]; omega) | (simp only [sz_d]; omega) | (simp only [sz_d, sz_a]; done) | (simp only [sz_d, sz_a]; omega)))) piece_size ?_; intro wq2 hpq2 hgr2)
                refine hK.out _ _ ?_ (fun hHeld => ?_)
                · (obtain ⟨al, ab, ap, aq⟩ := hHeld; exact ⟨Nat.lt_of_lt_of_le al hgr2.size, below_grown ab hgr2 (by omega) (by omega), ap.grown hgr2 (by omega), aq.grown hgr2 (by omega)⟩)
                clear hK K
                try simp only [Act.put]
                refine wpAnyH_done (by kernel_rfl) ?_ _
                obtain ⟨al, ab, ap, aq⟩ := hHeld
                go_wp2_with fail
                go_meet
                exact ⟨_, _, rfl, rfl, by (first | omega | (simp only [sz_a]; done) | (simp only [sz_a]; omega) | (simp only [sz_d]; omega) | (simp only [sz_d, sz_a]; done) | (simp only [sz_d, sz_a]; omega)), hpq.grown hgr2 (by (first | omega | (simp only [sz_a]; done) | (simp only [sz_a]; omega) | (simp only [sz_d]; omega) | (simp only [sz_d, sz_a]; done) | (simp only [sz_d, sz_a]; omega))), hpq2, ab⟩
              exact AllReadyH.nil
            exact AllReadyH.nil
          exact AllReadyH.nil
        refine cons_mk rfl (fun K hK => ?_) ?_
        · go_simp
          refine hK.out _ _ ?_ (fun hHeld => ?_)
          · (obtain ⟨al, ab, ap, aq⟩ := hHeld; exact ⟨by simp; omega, ab.alloc (by omega) _, ap.alloc _, aq.alloc _⟩)
          clear hK K
          try simp only [Act.put, List.setIfInBounds_toArray, List.set_cons_zero, List.set_cons_succ]
          refine wpAnyH_ready (rs := [3]) (by kernel_rfl) (by simp) ?_
          refine cons_mk rfl (fun K hK => ?_) ?_
          · go_simp
            refine (near_b _ _ _ _ _ _ _ HD2.out).mono ?_; rintro e wx ⟨rfl, hbB⟩; have hzB := hbB.size; (try simp at hzB); go_simp
            refine hK.out _ _ ?_ (fun hHeld => ?_)
            · (obtain ⟨al, ab, ap, aq⟩ := hHeld; exact ⟨Nat.lt_of_lt_of_le al hbB.size, ab.trans (hbB.mono (by omega)), ap.below hbB (by omega), aq.below hbB (by omega)⟩)
            clear hK K
            try simp only [Act.put, List.setIfInBounds_toArray, List.set_cons_zero, List.set_cons_succ]
            refine wpAnyH_ready (rs := [6]) (by kernel_rfl) (by simp) ?_
            refine cons_mk rfl (fun K hK => ?_) ?_
            · (rw [if_pos (by rfl)]; refine wp_store_piece 23 (.tmp 5) (.tmp 15) rfl _ _ _ _ _ _ _ rfl rfl (v' := 0) (f' := 0) (s' := 0) (g' := 0) (ve' := 0) (d' := { data := #[] }) (t := 23) (Piece.below (Piece.alloc (Piece.below (piece_drew (zero_at (by (first | omega | (simp only [sz_a]; done) | (simp only [sz_a]; omega) | (simp only [sz_d]; omega) | (simp only [sz_d, sz_a]; done) | (simp only [sz_d, sz_a]; omega))))) hbA (by (first | omega | (simp only [sz_a]; done) | (simp only [sz_a]; omega) | (simp only [sz_d]; omega) | (simp only [sz_d, sz_a]; done) | (simp only [sz_d, sz_a]; omega)))) _) hbB (by (first | omega | (simp only [sz_a]; done) | (simp only [sz_a]; omega) | (simp only [sz_d]; omega) | (simp only [sz_d, sz_a]; done) | (simp only [sz_d, sz_a]; omega)))) piece_size ?_; intro wq hpq hgr)
              refine hK.out _ _ ?_ (fun hHeld => ?_)
              · (obtain ⟨al, ab, ap, aq⟩ := hHeld; exact ⟨Nat.lt_of_lt_of_le al hgr.size, below_grown ab hgr (by omega) (by omega), ap.grown hgr (by omega), aq.grown hgr (by omega)⟩)
              clear hK K
              try simp only [Act.put]
              refine wpAnyH_ready (rs := [7]) (by kernel_rfl) (by simp) ?_
              refine cons_mk rfl (fun K hK => ?_) ?_
              · (rw [if_pos (by rfl)]; refine wp_store_piece 23 (.tmp 6) (.tmp 17) rfl _ _ _ _ _ _ _ rfl rfl (v' := 0) (f' := 0) (s' := 0) (g' := 0) (ve' := 0) (d' := { data := #[] }) (t := 23) (Piece.grown (Piece.below (zero_at (by (first | omega | (simp only [sz_a]; done) | (simp only [sz_a]; omega) | (simp only [sz_d]; omega) | (simp only [sz_d, sz_a]; done) | (simp only [sz_d, sz_a]; omega)))) hbB (by (first | omega | (simp only [sz_a]; done) | (simp only [sz_a]; omega) | (simp only [sz_d]; omega) | (simp only [sz_d, sz_a]; done) | (simp only [sz_d, sz_a]; omega)))) hgr (by (first | omega | (simp only [sz_a]; done) | (simp only [sz_a]; omega) | (simp only [sz_d]; omega) | (simp only [sz_d, sz_a]; done) | (simp only [sz_d, sz_a]; omega)))) piece_size ?_; intro wq2 hpq2 hgr2)
                refine hK.out _ _ ?_ (fun hHeld => ?_)
                · (obtain ⟨al, ab, ap, aq⟩ := hHeld; exact ⟨Nat.lt_of_lt_of_le al hgr2.size, below_grown ab hgr2 (by omega) (by omega), ap.grown hgr2 (by omega), aq.grown hgr2 (by omega)⟩)
                clear hK K
                try simp only [Act.put]
                refine wpAnyH_done (by kernel_rfl) ?_ _
                obtain ⟨al, ab, ap, aq⟩ := hHeld
                go_wp2_with fail
                go_meet
                exact ⟨_, _, rfl, rfl, by (first | omega | (simp only [sz_a]; done) | (simp only [sz_a]; omega) | (simp only [sz_d]; omega) | (simp only [sz_d, sz_a]; done) | (simp only [sz_d, sz_a]; omega)), hpq.grown hgr2 (by (first | omega | (simp only [sz_a]; done) | (simp only [sz_a]; omega) | (simp only [sz_d]; omega) | (simp only [sz_d, sz_a]; done) | (simp only [sz_d, sz_a]; omega))), hpq2, ab⟩
              exact AllReadyH.nil
            exact AllReadyH.nil
          exact AllReadyH.nil
        exact AllReadyH.nil
      refine cons_mk rfl (fun K hK => ?_) ?_
      · go_simp
        refine hK.out _ _ ?_ (fun hHeld => ?_)
        · (obtain ⟨al, ab, ap, aq⟩ := hHeld; exact ⟨by simp; omega, ab.alloc (by omega) _, ap.alloc _, aq.alloc _⟩)
        clear hK K
        try simp only [Act.put, List.setIfInBounds_toArray, List.set_cons_zero, List.set_cons_succ]
        refine wpAnyH_ready (rs := [1]) (by kernel_rfl) (by simp) ?_
        refine cons_mk rfl (fun K hK => ?_) ?_
        · go_simp
          refine (near_b _ _ _ _ _ _ _ HD.out).mono ?_; rintro e wx ⟨rfl, hbA⟩; have hzA := hbA.size; (try simp at hzA); go_simp
          refine hK.out _ _ ?_ (fun hHeld => ?_)
          · (obtain ⟨al, ab, ap, aq⟩ := hHeld; exact ⟨Nat.lt_of_lt_of_le al hbA.size, ab.trans (hbA.mono (by omega)), ap.below hbA (by omega), aq.below hbA (by omega)⟩)
          clear hK K
          try simp only [Act.put, List.setIfInBounds_toArray, List.set_cons_zero, List.set_cons_succ]
          refine wpAnyH_ready (rs := [3]) (by kernel_rfl) (by simp) ?_
          refine cons_mk rfl (fun K hK => ?_) ?_
          · go_simp
            refine (near_b _ _ _ _ _ _ _ HD2.out).mono ?_; rintro e wx ⟨rfl, hbB⟩; have hzB := hbB.size; (try simp at hzB); go_simp
            refine hK.out _ _ ?_ (fun hHeld => ?_)
            · (obtain ⟨al, ab, ap, aq⟩ := hHeld; exact ⟨Nat.lt_of_lt_of_le al hbB.size, ab.trans (hbB.mono (by omega)), ap.below hbB (by omega), aq.below hbB (by omega)⟩)
            clear hK K
            try simp only [Act.put, List.setIfInBounds_toArray, List.set_cons_zero, List.set_cons_succ]
            refine wpAnyH_ready (rs := [6]) (by kernel_rfl) (by simp) ?_
            refine cons_mk rfl (fun K hK => ?_) ?_
            · (rw [if_pos (by rfl)]; refine wp_store_piece 23 (.tmp 5) (.tmp 15) rfl _ _ _ _ _ _ _ rfl rfl (v' := 0) (f' := 0) (s' := 0) (g' := 0) (ve' := 0) (d' := { data := #[] }) (t := 23) (Piece.below (Piece.below (piece_drew (Piece.alloc (zero_at (by (first | omega | (simp only [sz_a]; done) | (simp only [sz_a]; omega) | (simp only [sz_d]; omega) | (simp only [sz_d, sz_a]; done) | (simp only [sz_d, sz_a]; omega)))) _)) hbA (by (first | omega | (simp only [sz_a]; done) | (simp only [sz_a]; omega) | (simp only [sz_d]; omega) | (simp only [sz_d, sz_a]; done) | (simp only [sz_d, sz_a]; omega)))) hbB (by (first | omega | (simp only [sz_a]; done) | (simp only [sz_a]; omega) | (simp only [sz_d]; omega) | (simp only [sz_d, sz_a]; done) | (simp only [sz_d, sz_a]; omega)))) piece_size ?_; intro wq hpq hgr)
              refine hK.out _ _ ?_ (fun hHeld => ?_)
              · (obtain ⟨al, ab, ap, aq⟩ := hHeld; exact ⟨Nat.lt_of_lt_of_le al hgr.size, below_grown ab hgr (by omega) (by omega), ap.grown hgr (by omega), aq.grown hgr (by omega)⟩)
              clear hK K
              try simp only [Act.put]
              refine wpAnyH_ready (rs := [7]) (by kernel_rfl) (by simp) ?_
              refine cons_mk rfl (fun K hK => ?_) ?_
              · (rw [if_pos (by rfl)]; refine wp_store_piece 23 (.tmp 6) (.tmp 17) rfl _ _ _ _ _ _ _ rfl rfl (v' := 0) (f' := 0) (s' := 0) (g' := 0) (ve' := 0) (d' := { data := #[] }) (t := 23) (Piece.grown (Piece.below (Piece.below (piece_drew (zero_at (by (first | omega | (simp only [sz_a]; done) | (simp only [sz_a]; omega) | (simp only [sz_d]; omega) | (simp only [sz_d, sz_a]; done) | (simp only [sz_d, sz_a]; omega))))) hbA (by (first | omega | (simp only [sz_a]; done) | (simp only [sz_a]; omega) | (simp only [sz_d]; omega) | (simp only [sz_d, sz_a]; done) | (simp only [sz_d, sz_a]; omega)))) hbB (by (first | omega | (simp only [sz_a]; done) | (simp only [sz_a]; omega) | (simp only [sz_d]; omega) | (simp only [sz_d, sz_a]; done) | (simp only [sz_d, sz_a]; omega)))) hgr (by (first | omega | (simp only [sz_a]; done) | (simp only [sz_a]; omega) | (simp only [sz_d]; omega) | (simp only [sz_d, sz_a]; done) | (simp only [sz_d, sz_a]; omega)))) piece_size ?_; intro wq2 hpq2 hgr2)
                refine hK.out _ _ ?_ (fun hHeld => ?_)
                · (obtain ⟨al, ab, ap, aq⟩ := hHeld; exact ⟨Nat.lt_of_lt_of_le al hgr2.size, below_grown ab hgr2 (by omega) (by omega), ap.grown hgr2 (by omega), aq.grown hgr2 (by omega)⟩)
                clear hK K
                try simp only [Act.put]
                refine wpAnyH_done (by kernel_rfl) ?_ _
                obtain ⟨al, ab, ap, aq⟩ := hHeld
                go_wp2_with fail
                go_meet
                exact ⟨_, _, rfl, rfl, by (first | omega | (simp only [sz_a]; done) | (simp only [sz_a]; omega) | (simp only [sz_d]; omega) | (simp only [sz_d, sz_a]; done) | (simp only [sz_d, sz_a]; omega)), hpq.grown hgr2 (by (first | omega | (simp only [sz_a]; done) | (simp only [sz_a]; omega) | (simp only [sz_d]; omega) | (simp only [sz_d, sz_a]; done) | (simp only [sz_d, sz_a]; omega))), hpq2, ab⟩
              exact AllReadyH.nil
            exact AllReadyH.nil
          exact AllReadyH.nil
        exact AllReadyH.nil
      exact AllReadyH.nil
    refine cons_mk rfl (fun K hK => ?_) ?_
    · go_simp
      refine hK.out _ _ ?_ (fun hHeld => ?_)
      · (obtain ⟨al, ab, ap, aq⟩ := hHeld; exact ⟨by simp; omega, ab.alloc (by omega) _, ap.alloc _, aq.alloc _⟩)
      clear hK K
      try simp only [Act.put, List.setIfInBounds_toArray, List.set_cons_zero, List.set_cons_succ]
      refine wpAnyH_ready (rs := [1, 4]) (by kernel_rfl) (by simp) ?_
      refine cons_mk rfl (fun K hK => ?_) ?_
      · go_simp
        refine (near_b _ _ _ _ _ _ _ HD.out).mono ?_; rintro e wx ⟨rfl, hbA⟩; have hzA := hbA.size; (try simp at hzA); go_simp
        refine hK.out _ _ ?_ (fun hHeld => ?_)
        · (obtain ⟨al, ab, ap, aq⟩ := hHeld; exact ⟨Nat.lt_of_lt_of_le al hbA.size, ab.trans (hbA.mono (by omega)), ap.below hbA (by omega), aq.below hbA (by omega)⟩)
        clear hK K
        try simp only [Act.put, List.setIfInBounds_toArray, List.set_cons_zero, List.set_cons_succ]
        refine wpAnyH_ready (rs := [3, 4]) (by kernel_rfl) (by simp) ?_
        refine cons_mk rfl (fun K hK => ?_) ?_
        · go_simp
          refine (near_b _ _ _ _ _ _ _ HD2.out).mono ?_; rintro e wx ⟨rfl, hbB⟩; have hzB := hbB.size; (try simp at hzB); go_simp
          refine hK.out _ _ ?_ (fun hHeld => ?_)
          · (obtain ⟨al, ab, ap, aq⟩ := hHeld; exact ⟨Nat.lt_of_lt_of_le al hbB.size, ab.trans (hbB.mono (by omega)), ap.below hbB (by omega), aq.below hbB (by omega)⟩)
          clear hK K
          try simp only [Act.put, List.setIfInBounds_toArray, List.set_cons_zero, List.set_cons_succ]
          refine wpAnyH_ready (rs := [4]) (by kernel_rfl) (by simp) ?_
          refine cons_mk rfl (fun K hK => ?_) ?_
          · go_simp
            refine hK.out _ _ ?_ (fun hHeld => ?_)
            · (obtain ⟨al, ab, ap, aq⟩ := hHeld; exact ⟨by simp; omega, ab.alloc (by omega) _, ap.alloc _, aq.alloc _⟩)
            clear hK K
            try simp only [Act.put, List.setIfInBounds_toArray, List.set_cons_zero, List.set_cons_succ]
            refine wpAnyH_ready (rs := [6]) (by kernel_rfl) (by simp) ?_
            refine cons_mk rfl (fun K hK => ?_) ?_
            · (rw [if_pos (by rfl)]; refine wp_store_piece 23 (.tmp 5) (.tmp 15) rfl _ _ _ _ _ _ _ rfl rfl (v' := 0) (f' := 0) (s' := 0) (g' := 0) (ve' := 0) (d' := { data := #[] }) (t := 23) (zero_at (by (first | omega | (simp only [sz_a]; done) | (simp only [sz_a]; omega) | (simp only [sz_d]; omega) | (simp only [sz_d, sz_a]; done) | (simp only [sz_d, sz_a]; omega)))) piece_size ?_; intro wq hpq hgr)
              refine hK.out _ _ ?_ (fun hHeld => ?_)
              · (obtain ⟨al, ab, ap, aq⟩ := hHeld; exact ⟨Nat.lt_of_lt_of_le al hgr.size, below_grown ab hgr (by omega) (by omega), ap.grown hgr (by omega), aq.grown hgr (by omega)⟩)
              clear hK K
              try simp only [Act.put]
              refine wpAnyH_ready (rs := [7]) (by kernel_rfl) (by simp) ?_
              refine cons_mk rfl (fun K hK => ?_) ?_
              · (rw [if_pos (by rfl)]; refine wp_store_piece 23 (.tmp 6) (.tmp 17) rfl _ _ _ _ _ _ _ rfl rfl (v' := 0) (f' := 0) (s' := 0) (g' := 0) (ve' := 0) (d' := { data := #[] }) (t := 23) (Piece.grown (Piece.alloc (Piece.below (Piece.below (piece_drew (zero_at (by (first | omega | (simp only [sz_a]; done) | (simp only [sz_a]; omega) | (simp only [sz_d]; omega) | (simp only [sz_d, sz_a]; done) | (simp only [sz_d, sz_a]; omega))))) hbA (by (first | omega | (simp only [sz_a]; done) | (simp only [sz_a]; omega) | (simp only [sz_d]; omega) | (simp only [sz_d, sz_a]; done) | (simp only [sz_d, sz_a]; omega)))) hbB (by (first | omega | (simp only [sz_a]; done) | (simp only [sz_a]; omega) | (simp only [sz_d]; omega) | (simp only [sz_d, sz_a]; done) | (simp only [sz_d, sz_a]; omega)))) _) hgr (by (first | omega | (simp only [sz_a]; done) | (simp only [sz_a]; omega) | (simp only [sz_d]; omega) | (simp only [sz_d, sz_a]; done) | (simp only [sz_d, sz_a]; omega)))) piece_size ?_; intro wq2 hpq2 hgr2)
                refine hK.out _ _ ?_ (fun hHeld => ?_)
                · (obtain ⟨al, ab, ap, aq⟩ := hHeld; exact ⟨Nat.lt_of_lt_of_le al hgr2.size, below_grown ab hgr2 (by omega) (by omega), ap.grown hgr2 (by omega), aq.grown hgr2 (by omega)⟩)
                clear hK K
                try simp only [Act.put]
                refine wpAnyH_done (by kernel_rfl) ?_ _
                obtain ⟨al, ab, ap, aq⟩ := hHeld
                go_wp2_with fail
                go_meet
                exact ⟨_, _, rfl, rfl, by (first | omega | (simp only [sz_a]; done) | (simp only [sz_a]; omega) | (simp only [sz_d]; omega) | (simp only [sz_d, sz_a]; done) | (simp only [sz_d, sz_a]; omega)), hpq.grown hgr2 (by (first | omega | (simp only [sz_a]; done) | (simp only [sz_a]; omega) | (simp only [sz_d]; omega) | (simp only [sz_d, sz_a]; done) | (simp only [sz_d, sz_a]; omega))), hpq2, ab⟩
              exact AllReadyH.nil
            exact AllReadyH.nil
          exact AllReadyH.nil
        refine cons_mk rfl (fun K hK => ?_) ?_
        · go_simp
          refine hK.out _ _ ?_ (fun hHeld => ?_)
          · (obtain ⟨al, ab, ap, aq⟩ := hHeld; exact ⟨by simp; omega, ab.alloc (by omega) _, ap.alloc _, aq.alloc _⟩)
          clear hK K
          try simp only [Act.put, List.setIfInBounds_toArray, List.set_cons_zero, List.set_cons_succ]
          refine wpAnyH_ready (rs := [3]) (by kernel_rfl) (by simp) ?_
          refine cons_mk rfl (fun K hK => ?_) ?_
          · go_simp
            refine (near_b _ _ _ _ _ _ _ HD2.out).mono ?_; rintro e wx ⟨rfl, hbB⟩; have hzB := hbB.size; (try simp at hzB); go_simp
            refine hK.out _ _ ?_ (fun hHeld => ?_)
            · (obtain ⟨al, ab, ap, aq⟩ := hHeld; exact ⟨Nat.lt_of_lt_of_le al hbB.size, ab.trans (hbB.mono (by omega)), ap.below hbB (by omega), aq.below hbB (by omega)⟩)
            clear hK K
            try simp only [Act.put, List.setIfInBounds_toArray, List.set_cons_zero, List.set_cons_succ]
            refine wpAnyH_ready (rs := [6]) (by kernel_rfl) (by simp) ?_
            refine cons_mk rfl (fun K hK => ?_) ?_
            · (rw [if_pos (by rfl)]; refine wp_store_piece 23 (.tmp 5) (.tmp 15) rfl _ _ _ _ _ _ _ rfl rfl (v' := 0) (f' := 0) (s' := 0) (g' := 0) (ve' := 0) (d' := { data := #[] }) (t := 23) (Piece.below (zero_at (by (first | omega | (simp only [sz_a]; done) | (simp only [sz_a]; omega) | (simp only [sz_d]; omega) | (simp only [sz_d, sz_a]; done) | (simp only [sz_d, sz_a]; omega)))) hbB (by (first | omega | (simp only [sz_a]; done) | (simp only [sz_a]; omega) | (simp only [sz_d]; omega) | (simp only [sz_d, sz_a]; done) | (simp only [sz_d, sz_a]; omega)))) piece_size ?_; intro wq hpq hgr)
              refine hK.out _ _ ?_ (fun hHeld => ?_)
              · (obtain ⟨al, ab, ap, aq⟩ := hHeld; exact ⟨Nat.lt_of_lt_of_le al hgr.size, below_grown ab hgr (by omega) (by omega), ap.grown hgr (by omega), aq.grown hgr (by omega)⟩)
              clear hK K
              try simp only [Act.put]
              refine wpAnyH_ready (rs := [7]) (by kernel_rfl) (by simp) ?_
              refine cons_mk rfl (fun K hK => ?_) ?_
              · (rw [if_pos (by rfl)]; refine wp_store_piece 23 (.tmp 6) (.tmp 17) rfl _ _ _ _ _ _ _ rfl rfl (v' := 0) (f' := 0) (s' := 0) (g' := 0) (ve' := 0) (d' := { data := #[] }) (t := 23) (Piece.grown (Piece.below (Piece.alloc (Piece.below (piece_drew (zero_at (by (first | omega | (simp only [sz_a]; done) | (simp only [sz_a]; omega) | (simp only [sz_d]; omega) | (simp only [sz_d, sz_a]; done) | (simp only [sz_d, sz_a]; omega))))) hbA (by (first | omega | (simp only [sz_a]; done) | (simp only [sz_a]; omega) | (simp only [sz_d]; omega) | (simp only [sz_d, sz_a]; done) | (simp only [sz_d, sz_a]; omega)))) _) hbB (by (first | omega | (simp only [sz_a]; done) | (simp only [sz_a]; omega) | (simp only [sz_d]; omega) | (simp only [sz_d, sz_a]; done) | (simp only [sz_d, sz_a]; omega)))) hgr (by (first | omega | (simp only [sz_a]; done) | (simp only [sz_a]; omega) | (simp only [sz_d]; omega) | (simp only [sz_d, sz_a]; done) | (simp only [sz_d, sz_a]; omega)))) piece_size ?_; intro wq2 hpq2 hgr2)
                refine hK.out _ _ ?_ (fun hHeld => ?_)
                · (obtain ⟨al, ab, ap, aq⟩ := hHeld; exact ⟨Nat.lt_of_lt_of_le al hgr2.size, below_grown ab hgr2 (by omega) (by omega), ap.grown hgr2 (by omega), aq.grown hgr2 (by omega)⟩)
                clear hK K
                try simp only [Act.put]
                refine wpAnyH_done (by kernel_rfl) ?_ _
                obtain ⟨al, ab, ap, aq⟩ := hHeld
                go_wp2_with fail
                go_meet
                exact ⟨_, _, rfl, rfl, by (first | omega | (simp only [sz_a]; done) | (simp only [sz_a]; omega) | (simp only [sz_d]; omega) | (simp only [sz_d, sz_a]; done) | (simp only [sz_d, sz_a]; omega)), hpq.grown hgr2 (by (first | omega | (simp only [sz_a]; done) | (simp only [sz_a]; omega) | (simp only [sz_d]; omega) | (simp only [sz_d, sz_a]; done) | (simp only [sz_d, sz_a]; omega))), hpq2, ab⟩
              exact AllReadyH.nil
            exact AllReadyH.nil
          exact AllReadyH.nil
        exact AllReadyH.nil
      refine cons_mk rfl (fun K hK => ?_) ?_
      · go_simp
        refine hK.out _ _ ?_ (fun hHeld => ?_)
        · (obtain ⟨al, ab, ap, aq⟩ := hHeld; exact ⟨by simp; omega, ab.alloc (by omega) _, ap.alloc _, aq.alloc _⟩)
        clear hK K
        try simp only [Act.put, List.setIfInBounds_toArray, List.set_cons_zero, List.set_cons_succ]
        refine wpAnyH_ready (rs := [1]) (by kernel_rfl) (by simp) ?_
        refine cons_mk rfl (fun K hK => ?_) ?_
        · go_simp
          refine (near_b _ _ _ _ _ _ _ HD.out).mono ?_; rintro e wx ⟨rfl, hbA⟩; have hzA := hbA.size; (try simp at hzA); go_simp
          refine hK.out _ _ ?_ (fun hHeld => ?_)
          · (obtain ⟨al, ab, ap, aq⟩ := hHeld; exact ⟨Nat.lt_of_lt_of_le al hbA.size, ab.trans (hbA.mono (by omega)), ap.below hbA (by omega), aq.below hbA (by omega)⟩)
          clear hK K
          try simp only [Act.put, List.setIfInBounds_toArray, List.set_cons_zero, List.set_cons_succ]
          refine wpAnyH_ready (rs := [3]) (by kernel_rfl) (by simp) ?_
          refine cons_mk rfl (fun K hK => ?_) ?_
          · go_simp
            refine (near_b _ _ _ _ _ _ _ HD2.out).mono ?_; rintro e wx ⟨rfl, hbB⟩; have hzB := hbB.size; (try simp at hzB); go_simp
            refine hK.out _ _ ?_ (fun hHeld => ?_)
            · (obtain ⟨al, ab, ap, aq⟩ := hHeld; exact ⟨Nat.lt_of_lt_of_le al hbB.size, ab.trans (hbB.mono (by omega)), ap.below hbB (by omega), aq.below hbB (by omega)⟩)
            clear hK K
            try simp only [Act.put, List.setIfInBounds_toArray, List.set_cons_zero, List.set_cons_succ]
            refine wpAnyH_ready (rs := [6]) (by kernel_rfl) (by simp) ?_
            refine cons_mk rfl (fun K hK => ?_) ?_
            · (rw [if_pos (by rfl)]; refine wp_store_piece 23 (.tmp 5) (.tmp 15) rfl _ _ _ _ _ _ _ rfl rfl (v' := 0) (f' := 0) (s' := 0) (g' := 0) (ve' := 0) (d' := { data := #[] }) (t := 23) (Piece.below (Piece.below (piece_drew (zero_at (by (first | omega | (simp only [sz_a]; done) | (simp only [sz_a]; omega) | (simp only [sz_d]; omega) | (simp only [sz_d, sz_a]; done) | (simp only [sz_d, sz_a]; omega))))) hbA (by (first | omega | (simp only [sz_a]; done) | (simp only [sz_a]; omega) | (simp only [sz_d]; omega) | (simp only [sz_d, sz_a]; done) | (simp only [sz_d, sz_a]; omega)))) hbB (by (first | omega | (simp only [sz_a]; done) | (simp only [sz_a]; omega) | (simp only [sz_d]; omega) | (simp only [sz_d, sz_a]; done) | (simp only [sz_d, sz_a]; omega)))) piece_size ?_; intro wq hpq hgr)
              refine hK.out _ _ ?_ (fun hHeld => ?_)
              · (obtain ⟨al, ab, ap, aq⟩ := hHeld; exact ⟨Nat.lt_of_lt_of_le al hgr.size, below_grown ab hgr (by omega) (by omega), ap.grown hgr (by omega), aq.grown hgr (by omega)⟩)
              clear hK K
              try simp only [Act.put]
              refine wpAnyH_ready (rs := [7]) (by kernel_rfl) (by simp) ?_
              refine cons_mk rfl (fun K hK => ?_) ?_
              · (rw [if_pos (by rfl)]; refine wp_store_piece 23 (.tmp 6) (.tmp 17) rfl _ _ _ _ _ _ _ rfl rfl (v' := 0) (f' := 0) (s' := 0) (g' := 0) (ve' := 0) (d' := { data := #[] }) (t := 23) (Piece.grown (Piece.below (Piece.below (piece_drew (Piece.alloc (zero_at (by (first | omega | (simp only [sz_a]; done) | (simp only [sz_a]; omega) | (simp only [sz_d]; omega) | (simp only [sz_d, sz_a]; done) | (simp only [sz_d, sz_a]; omega)))) _)) hbA (by (first | omega | (simp only [sz_a]; done) | (simp only [sz_a]; omega) | (simp only [sz_d]; omega) | (simp only [sz_d, sz_a]; done) | (simp only [sz_d, sz_a]; omega)))) hbB (by (first | omega | (simp only [sz_a]; done) | (simp only [sz_a]; omega) | (simp only [sz_d]; omega) | (simp only [sz_d, sz_a]; done) | (simp only [sz_d, sz_a]; omega)))) hgr (by (first | omega | (simp only [sz_a]; done) | (simp only [sz_a]; omega) | (simp only [sz_d]; omega) | (simp only [sz_d, sz_a]; done) | (simp only [sz_d, sz_a]; omega)))) piece_size ?_; intro wq2 hpq2 hgr2)
                refine hK.out _ _ ?_ (fun hHeld => ?_)
                · (obtain ⟨al, ab, ap, aq⟩ := hHeld; exact ⟨Nat.lt_of_lt_of_le al hgr2.size, below_grown ab hgr2 (by omega) (by omega), ap.grown hgr2 (by omega), aq.grown hgr2 (by omega)⟩)
                clear hK K
                try simp only [Act.put]
                refine wpAnyH_done (by kernel_rfl) ?_ _
                obtain ⟨al, ab, ap, aq⟩ := hHeld
                go_wp2_with fail
                go_meet
                exact ⟨_, _, rfl, rfl, by (first | omega | (simp only [sz_a]; done) | (simp only [sz_a]; omega) | (simp only [sz_d]; omega) | (simp only [sz_d, sz_a]; done) | (simp only [sz_d, sz_a]; omega)), hpq.grown hgr2 (by (first | omega | (simp only [sz_a]; done) | (simp only [sz_a]; omega) | (simp only [sz_d]; omega) | (simp only [sz_d, sz_a]; done) | (simp only [sz_d, sz_a]; omega))), hpq2, ab⟩
              exact AllReadyH.nil
            exact AllReadyH.nil
          exact AllReadyH.nil
        exact AllReadyH.nil
      exact AllReadyH.nil
    exact AllReadyH.nil
  case rest =>
    obtain ⟨b, c, rfl, rfl, hne, hp, hq, hb⟩ := hcut
    obtain ⟨P1, hP1, hP1l⟩ : ∃ l : List UInt8, l = nearB d ∧ l.length = 16 := ⟨_, rfl, nearB_length d⟩
    obtain ⟨P2, hP2, hP2l⟩ : ∃ l : List UInt8, l = nearB d2 ∧ l.length = 16 := ⟨_, rfl, nearB_length d2⟩
    rw [← hP1] at hp HV
    rw [← hP2] at hq HV2
    clear hP1 hP2 HD HD2
    generalize v % 12 = xv at *
    generalize f % 8 = xf at *
    generalize s % 4 = xs at *
    generalize 1 + g % 1099511627775 = xg at *
    generalize 1 + ve % 1099511627775 = xe at *
    generalize v2 % 12 = yv at *
    generalize f2 % 8 = yf at *
    generalize s2 % 4 = ys at *
    generalize 1 + g2 % 1099511627775 = yg at *
    generalize 1 + ve2 % 1099511627775 = ye at *
    obtain ⟨c0, c1, c2, c3, c4, c5⟩ := hp.cells
    go_wp2_with fail
    refine (enc_prog_yes _ _ _ _ _ _ _ HV.out).mono ?_
    rintro e w1 ⟨rfl, hb1⟩
    rw [show ({ data := P1.toArray } : ByteArray).data.toList = P1 from rfl]
    clear c0 c1 c2 c3 c4 c5
    have hp1 := hp.below hb1 hp.lt
    have hq1 := hq.below hb1 hq.lt
    obtain ⟨c0, c1, c2, c3, c4, c5⟩ := hq1.cells
    go_wp2_with fail
    refine (enc_prog_yes _ _ _ _ _ _ _ HV2.out).mono ?_
    rintro e w2 ⟨rfl, hb2⟩
    rw [show ({ data := P2.toArray } : ByteArray).data.toList = P2 from rfl]
    clear c0 c1 c2 c3 c4 c5
    have hw2 : Below w.heap.size w w2 := by
      have h1 := hb.trans (hb1.mono hb.size)
      exact h1.trans (hb2.mono h1.size)
    have hp2 := hp1.below hb2 hp1.lt
    have hq2 := hq1.below hb2 hq1.lt
    have HL1 := hid (encL_length xv xf xs xg xe P1 hP1l)
    have HL2 := hid (encL_length yv yf ys yg ye P2 hP2l)
    have hs1 : (⟨(encL xv xf xs xg xe P1).toArray⟩ : ByteArray).size = 36 := HL1.out
    have hs2 : (⟨(encL yv yf ys yg ye P2).toArray⟩ : ByteArray).size = 36 := HL2.out
    obtain ⟨A, hA, hAs⟩ : ∃ A : ByteArray, A = ⟨(encL xv xf xs xg xe P1).toArray⟩ ∧ A.size = 36 := ⟨_, rfl, HL1.out⟩
    obtain ⟨B, hB, hBs⟩ : ∃ B : ByteArray, B = ⟨(encL yv yf ys yg ye P2).toArray⟩ ∧ B.size = 36 := ⟨_, rfl, HL2.out⟩
    rw [show str (encL xv xf xs xg xe P1) = .string A by rw [hA], show str (encL yv yf ys yg ye P2) = .string B by rw [hB]]
    have HA := hid hA
    have HB := hid hB
    clear hA hB hs1 hs2 hb hb1 hb2 hp1 hq1 hp hq HL1 HL2
    go_wp2_with fail
    go_loopw [11, 12, 13] (fun fi si i wr => ∃ (k : Nat) (x y : Int), k ≤ 288 ∧ i = .int .i64 k ∧ fi = .int .i64 x ∧ si = .int .i64 y ∧ (-1 ≤ x ∧ x ≤ 288 ∧ -1 ≤ y ∧ y ≤ 288) ∧ Hid (Seen A.data.toList B.data.toList k x y) ∧ ∃ n, wr = w2.drewN n) (fun _ _ i _ => (288 - intOf i).toNat)
    case atStart => exact ⟨0, -1, -1, by omega, rfl, rfl, rfl, by omega, hid (seen_start _ _), 0, rfl⟩
    case round =>
      obtain ⟨k, x, y, hk, rfl, rfl, rfl, hxy, hseen, n, rfl⟩ := hrel
      by_cases hlt : k < 288
      · have ka : k / 8 < A.size := by omega
        have kb : k / 8 < B.size := by omega
        have hx8 := xor_u8 A[k / 8] B[k / 8]
        have hdf : diffAt A.data.toList B.data.toList k = (A[k / 8] ^^^ B[k / 8]).toNat.testBit (7 - k % 8) := by
          unfold diffAt bitAt
          rw [getD_byte A (k / 8) ka, getD_byte B (k / 8) kb]; simp
        have HDF := hid hdf
        clear hdf
        have HX8 := hid (Nat.xor_lt_two_pow (n := 8) A[k / 8].toNat_lt B[k / 8].toNat_lt)
        have i1 : (0 : Int) ≤ (k : Int) / 8 := by omega
        have i2 : (k : Int) / 8 < 36 := by omega
        have i3 : (0 : Int) ≤ 7 - (k : Int) % 8 := by omega
        go_wp2_with fail
        refine wp_region_quiet_lit (by kernel_rfl) (by kernel_rfl) ?_
        repeat (go_big_quiet_step (fail))
        refine wpQuiet_nil ?_
        rintro _ ⟨nq, rfl⟩
        by_cases hbit : (A[k / 8].toNat ^^^ B[k / 8].toNat).testBit (7 - k % 8) = true
        · have hand : bits .and .u8 (((A[k / 8].toNat ^^^ B[k / 8].toNat : Nat) : Int) / 2 ^ (7 - k % 8)) 1 = 1 := by rw [and1_u8 _ _ HX8.out, if_pos hbit]
          have hd : diffAt A.data.toList B.data.toList k = true := by rw [HDF.out, UInt8.toNat_xor]; exact hbit
          have HDT := hid hd
          clear hd hbit HDF
          by_cases hx : x < 0
          · go_wp2
            go_roundw
            case rel => exact ⟨k + 1, k, k, by omega, by go_num, rfl, rfl, by omega, hid (seen_first hseen.out HDT.out hx), n + nq, rfl⟩
            case measure => (simp [intOf]; try omega)
          · go_wp2
            go_roundw
            case rel => exact ⟨k + 1, x, k, by omega, by go_num, rfl, rfl, by omega, hid (seen_next hseen.out HDT.out hx), n + nq, rfl⟩
            case measure => (simp [intOf]; try omega)
        · have hand : bits .and .u8 (((A[k / 8].toNat ^^^ B[k / 8].toNat : Nat) : Int) / 2 ^ (7 - k % 8)) 1 = 0 := by rw [and1_u8 _ _ HX8.out, if_neg hbit]
          have hd : diffAt A.data.toList B.data.toList k = false := by rw [HDF.out, UInt8.toNat_xor]; simpa using hbit
          have HDT := hid hd
          clear hd hbit HDF
          go_wp2
          go_roundw
          case rel => exact ⟨k + 1, x, y, by omega, by go_num, rfl, rfl, by omega, hid (seen_no hseen.out HDT.out), n + nq, rfl⟩
          case measure => (simp [intOf]; try omega)
      · obtain rfl : k = 288 := by omega
        have hp3 : Piece (w2.drewN n) b xv xf xs xg xe ⟨P1.toArray⟩ 23 := hp2
        have hq3 : Piece (w2.drewN n) c yv yf ys yg ye ⟨P2.toArray⟩ 23 := hq2
        have hw3 : Below w.heap.size w (w2.drewN n) := below_drewN hw2 n
        clear hp2 hq2 hw2
        generalize w2.drewN n = w3 at *
        obtain ⟨c0, c1, c2, c3, c4, c5⟩ := hp3.cells
        obtain ⟨r0, r1, r2, r3, r4, r5⟩ := hq3.cells
        have hsame := sector_same xv xf xs xg xe P1 yv yf ys yg ye P2 HV.out HV2.out
        have hA : A.data.toList = encL xv xf xs xg xe P1 := by rw [HA.out]
        have hB : B.data.toList = encL yv yf ys yg ye P2 := by rw [HB.out]
        rw [hA, hB] at hseen
        clear hA hB HA HB
        by_cases heq : xv = yv ∧ xf = yf ∧ xs = ys ∧ xg = yg ∧ xe = ye ∧ P1 = P2
        · obtain ⟨rfl, rfl, rfl, rfl, rfl, rfl⟩ := heq
          obtain rfl := seen_same hseen.out
          clear hsame hseen HV HV2
          go_wp2_with (go_at_call 12; refine (awake_any _).mono ?_; rintro e w4 ⟨rfl, hb4⟩)
          go_ret
          exact ⟨rfl, hw3.trans (hb4.mono hw3.size)⟩
        · obtain ⟨hx0, hyx⟩ := seen_apart hseen.out (encL_length _ _ _ _ _ _ hP1l) (encL_length _ _ _ _ _ _ hP2l) (sector_sealed _ _ _ _ _ _ HV.out) (sector_sealed _ _ _ _ _ _ HV2.out) (fun e => heq (hsame e))
          have HE := hid heq
          clear hsame hseen heq HV HV2
          go_wp2_with (go_at_call 12; refine (awake_any _).mono ?_; rintro e w4 ⟨rfl, hb4⟩)
          all_goals first | (go_ret; exact ⟨rfl, hw3.trans (hb4.mono hw3.size)⟩) | (exfalso; have hee := HE.out; simp_all; done)
end Go.Proofs.Ytmgghigongjjcaa
