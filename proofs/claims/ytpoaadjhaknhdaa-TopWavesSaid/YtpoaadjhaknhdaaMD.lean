/- margin: counts, valid, members, fragments. -/
import Derived.Test.YtpoaadjhaknhdaaW20
namespace Go.Proofs.Ytpoaadjhaknhdaa
open Go Go.RowKit Go.Sort Go.Deep

theorem margin_valid (k s : Int) (hk : 1 ≤ k ∧ k ≤ 6) (hs : 1 ≤ s ∧ s ≤ 4) (w : World) : Calls Try.prog 21 #[.int .i64 k, .int .i64 s] w fun e w' => e = .returned (.bool true) ∧ w = w' := by
  obtain ⟨h1, h2⟩ := hk
  obtain ⟨h3, h4⟩ := hs
  go_enter Try.func21, Try.ntmps21
  go_wp2
  go_ret
  exact ⟨by first | rfl | simp, rfl⟩
theorem counts_any (f d s : Int) (hf : 0 ≤ f ∧ f < 8) (w : World) : Calls Try.prog 34 #[.agg #[.int .i64 f, .int .i64 d, .int .i64 s]] w fun e w' => e = .returned (.bool true) ∧ Below w.heap.size w w' := by
  obtain ⟨h1, h2⟩ := hf
  go_enter Try.func34, Try.ntmps34
  go_wp2
  go_ret
  exact ⟨by first | rfl | simp, (Below.refl _ _).alloc (Nat.le_refl _) _⟩
/-- How many of the first k bits are set. -/
def popK (m : Nat) : Nat → Nat
  | 0 => 0
  | k + 1 => popK m k + if m.testBit k = true then 1 else 0
theorem popK_le (m : Nat) : ∀ k, popK m k ≤ k
  | 0 => Nat.le_refl _
  | k + 1 => by
    unfold popK
    have := popK_le m k
    split <;> omega
theorem bit_at : ∀ m : Nat, m < 16 → ∀ i : Nat, i < 63 → (bits .and .i64 ((m : Int) / 2 ^ i) 1 == 1) = m.testBit i := by decide +kernel
theorem Try.info_int : (Try.prog.info? 3).map (fun i => (i.zero, i.size, i.bytes)) = some (some (.int .i64 0), 1, 8) := by kernel_rfl
set_option maxRecDepth 100000 in
set_option maxHeartbeats 1600000 in
theorem members_any (m : Nat) (hm : m < 16) (w : World) : Calls Try.prog 26 #[.int .i64 (m : Int)] w fun e w' => ∃ A c, e = .returned (.slice A (popK m 63) c) ∧ Below w.heap.size w w' := by
  obtain ⟨i0, hi0, hz0, hz1, hz2⟩ := info_parts Try.info_int
  have HP := hid (show popK m 63 = popK m 63 from rfl)
  go_enter Try.func26, Try.ntmps26
  go_wp2_with fail
  go_loopw [3, 5] (fun s i wr => ∃ k : Nat, k ≤ 63 ∧ i = .int .i64 k ∧ Hid (∃ o xs, OwnSl wr o 1 s (popK m k) xs ∧ Above w.heap.size o) ∧ Hid (Below w.heap.size w wr)) (fun _ i _ => (63 - intOf i).toNat)
  case atStart => exact ⟨0, by omega, rfl, hid ⟨NoOwn, [], OwnSl.nil _ _ _, fun _ e => e.elim⟩, hid (Below.refl _ _)⟩
  case round =>
    obtain ⟨k, hk, rfl, HO, HB⟩ := hrel
    by_cases hlt : k < 63
    · have hbit := bit_at m hm k hlt
      have hps : popK m (k + 1) = popK m k + if m.testBit k = true then 1 else 0 := rfl
      obtain ⟨o, xs, ho, hoa⟩ := HO.out
      obtain ⟨A, c, rfl, hc⟩ := ho.form
      have hpl := popK_le m k
      have HPS := hid hps
      have HOO := hid ho
      have HOA := hid hoa
      clear hps ho hoa
      cases hb : m.testBit k
      · rw [hb] at hbit
        have hpe : popK m (k + 1) = popK m k := by rw [HPS.out, hb]; simp
        have HO2 := hid (show ∃ o xs, OwnSl wr o 1 (.slice A (popK m k) c) (popK m (k + 1)) xs ∧ Above w.heap.size o from ⟨o, xs, by rw [hpe]; exact HOO.out, HOA.out⟩)
        clear hpe
        go_wp2
        refine ⟨⟨k + 1, by omega, by go_num, HO2, HB⟩, ?_⟩
        (simp [intOf]; try omega)
      · rw [hb] at hbit
        have hpe : popK m (k + 1) = popK m k + 1 := by rw [HPS.out, hb]; simp
        have HPE := hid hpe
        have hbs := hid HB.out.size
        clear hpe
        generalize popK m k = n at *
        go_wp2_with (at_builtin; refine wpList_append_sl (by rfl) (.tmp 13) (.tmp 15) 22 (by rfl) 3 i0 _ 1 8 Try.underlying22 hi0 hz0 hz1 hz2 rfl (by decide) o _ (.slice (some ⟨wr.heap.size, 0, none⟩) 1 1) n 1 xs [.int .i64 (k : Int)] (by rfl) (by rfl) (HOO.out.below ((Below.refl _ _).alloc (Nat.le_refl _) _)) ⟨rfl, .inr ⟨_, 1, rfl, World.news_of_block (cs := #[.int .i64 (k : Int)]) (fr := (0, 0)) (heap_alloc_new wr _)⟩⟩ (by intro u hu; simp at hu; subst hu; rfl) (by unfold maxLen; omega) (by omega) ?_)
        intro v6 w6 hown6 hgrow
        have HB6 := hid (below_of_fr (HB.out.alloc HB.out.size _) hgrow HOA.out (by simp; have := hbs.out; omega))
        have HO6 := hid (show ∃ o xs, OwnSl w6 o 1 v6 (popK m (k + 1)) xs ∧ Above w.heap.size o from ⟨_, _, by rw [HPE.out]; exact hown6, hgrow.mv.above HOA.out (by simp; have := hbs.out; omega)⟩)
        clear hown6 hgrow HOO HOA
        go_wp2
        refine ⟨⟨k + 1, by omega, by go_num, HO6, HB6⟩, ?_⟩
        (simp [intOf]; try omega)
    · obtain rfl : k = 63 := by omega
      obtain ⟨o, xs, ho, hoa⟩ := HO.out
      obtain ⟨A, c, rfl, hc⟩ := ho.form
      go_wp2
      go_ret
      exact ⟨_, _, rfl, HB.out⟩
/-- A copy of a fragment: its cells. -/
def cpCells (x : Nat × Int) : List Value := [.int .i64 (x.1 : Int), .int .i64 x.2, .int .i64 15]
def CopiesAt (w : World) (v : Value) (l : List (Nat × Int)) : Prop := (∀ x ∈ l, x.1 < 4) ∧ l.length ≤ 100 ∧ ∃ A c, v = .slice A l.length c ∧ l.length ≤ c ∧ c ≤ maxLen ∧ (0 < l.length → ∃ g off, A = some ⟨g, off, none⟩ ∧ g < w.heap.size ∧ ∀ j (h : j < l.length), w.cell? ⟨g, off + j * 3, none⟩ = some (.int .i64 (l[j].1 : Int)) ∧ w.cell? ⟨g, off + j * 3 + 1, none⟩ = some (.int .i64 l[j].2) ∧ w.cell? ⟨g, off + j * 3 + 2, none⟩ = some (.int .i64 15))
theorem CopiesAt.below {w w' : World} {v : Value} {l : List (Nat × Int)} (h : CopiesAt w v l) (hb : Below w.heap.size w w') : CopiesAt w' v l := by
  obtain ⟨h1, h2, A, c, e, h3, h4, h5⟩ := h
  refine ⟨h1, h2, A, c, e, h3, h4, fun h0 => ?_⟩
  obtain ⟨g, off, e2, hg, h6⟩ := h5 h0
  refine ⟨g, off, e2, Nat.lt_of_lt_of_le hg hb.size, fun j hj => ?_⟩
  obtain ⟨a, b, c⟩ := h6 j hj
  exact ⟨(hb.cell (p := ⟨g, off + j * 3, none⟩) hg).trans a, (hb.cell (p := ⟨g, off + j * 3 + 1, none⟩) hg).trans b, (hb.cell (p := ⟨g, off + j * 3 + 2, none⟩) hg).trans c⟩
/-- The set of the fragments, as bits. -/
def maskOf (l : List (Nat × Int)) : Nat := l.foldl (fun m x => m ||| 2 ^ x.1) 0
theorem mask_snoc (l : List (Nat × Int)) (x : Nat × Int) : maskOf (l ++ [x]) = maskOf l ||| 2 ^ x.1 := by unfold maskOf; rw [List.foldl_append]; rfl
theorem or_small : ∀ m : Nat, m < 16 → ∀ f : Nat, f < 4 → m ||| 2 ^ f < 16 ∧ bits .or .i64 (m : Int) (2 ^ f : Int) = ((m ||| 2 ^ f : Nat) : Int) := by decide +kernel
theorem wrap_pow : ∀ f : Nat, f < 4 → wrap64 ((2 : Int) ^ f) = 2 ^ f := by decide +kernel
theorem mask_lt : ∀ l : List (Nat × Int), (∀ x ∈ l, x.1 < 4) → maskOf l < 16 := by
  have : ∀ (l : List (Nat × Int)) (m : Nat), m < 16 → (∀ x ∈ l, x.1 < 4) → l.foldl (fun m x => m ||| 2 ^ x.1) m < 16 := by
    intro l
    induction l with
    | nil => intro m hm _; exact hm
    | cons x r ih =>
      intro m hm h
      exact ih _ (or_small m hm x.1 (h x (by simp))).1 (fun y hy => h y (by simp [hy]))
  exact fun l h => this l 0 (by omega) h
theorem stripe_one : ∀ s : Nat, s < 4 → (bits .and .i64 ((15 : Int) / 2 ^ s) 1 == 1) = true := by decide +kernel
set_option maxRecDepth 100000 in
set_option maxHeartbeats 1600000 in
theorem fragments_any {w : World} {v : Value} {l : List (Nat × Int)} (h : CopiesAt w v l) (s : Nat) (hs : s < 4) : Calls Try.prog 27 #[v, .int .i64 (s : Int)] w fun e w' => e = .returned (.int .i64 (maskOf l : Nat)) ∧ Below w.heap.size w w' := by
  obtain ⟨h1, h2, A, c, rfl, h3, h4, h5⟩ := h
  have H1 := hid h1
  have H5 := hid h5
  have HST := hid (stripe_one s hs)
  obtain ⟨mm, hmm⟩ : ∃ m, maskOf l = m := ⟨_, rfl⟩
  rw [hmm]
  have HM := hid hmm
  unfold maxLen at h4
  clear h1 h5 hmm
  go_enter Try.func27, Try.ntmps27
  go_wp2_with fail
  go_loopw [5, 10] (fun m i wr => ∃ k q : Nat, k ≤ l.length ∧ i = .int .i64 k ∧ m = .int .i64 q ∧ q < 16 ∧ Hid (q = maskOf (l.take k)) ∧ Hid (Below w.heap.size w wr)) (fun _ i _ => (l.length - intOf i).toNat)
  case atStart => exact ⟨0, 0, Nat.zero_le _, rfl, rfl, by omega, hid rfl, hid (Below.refl _ _)⟩
  case round =>
    obtain ⟨k, q, hk, rfl, rfl, hq, HQ, HB⟩ := hrel
    by_cases hlt : k < l.length
    · obtain ⟨g, off, rfl, hg, hc⟩ := H5.out (by omega)
      obtain ⟨a0, a1, a2⟩ := hc k hlt
      have z0 := (HB.out.cell (p := ⟨g, off + k * 3, none⟩) hg).trans a0
      have z1 := (HB.out.cell (p := ⟨g, off + k * 3 + 1, none⟩) hg).trans a1
      have z2 := (HB.out.cell (p := ⟨g, off + k * 3 + 2, none⟩) hg).trans a2
      have hf := H1.out l[k] (List.getElem_mem _)
      have HN := hid (show maskOf (l.take (k + 1)) = maskOf (l.take k) ||| 2 ^ l[k].1 by rw [List.take_succ_eq_append_getElem hlt, mask_snoc])
      generalize l[k].2 = d at *
      generalize l[k].1 = f at *
      obtain ⟨hor1, hor2⟩ := or_small q hq f hf
      have HO1 := hid hor1
      have hwp := wrap_pow f hf
      clear a0 a1 a2 hc hor1
      go_upto_region 5 with fail
      have hba := (Below.refl wr.heap.size wr).alloc (Nat.le_refl _) (.cells #[.int .i64 (f : Int), .int .i64 d, .int .i64 15] 55)
      have hga := heap_alloc_new wr (.cells #[.int .i64 (f : Int), .int .i64 d, .int .i64 15] 55)
      have HGA := hid hga
      have HBA := hid (HB.out.trans (hba.mono HB.out.size))
      have e0 := cell_block hga 0
      have e1 := cell_block hga 1
      have e2 := cell_block hga 2
      simp only [List.getElem?_toArray, List.getElem?_cons_zero, List.getElem?_cons_succ] at e0 e1 e2
      clear hba hga z0 z1 z2
      generalize wr.alloc (.cells #[.int .i64 (f : Int), .int .i64 d, .int .i64 15] 55) = we at *
      generalize wr.heap.size = qq at *
      go_wp2_with fail
      refine (counts_any (f : Int) d 15 (by omega) we).mono ?_
      rintro e w7 ⟨rfl, hb7⟩
      have hg7 := (hb7.block _ (Array.getElem?_eq_some_iff.1 HGA.out).1).trans HGA.out
      have f0 := cell_block hg7 0
      have f2 := cell_block hg7 2
      simp only [List.getElem?_toArray, List.getElem?_cons_zero, List.getElem?_cons_succ] at f0 f2
      have HB7 := hid (HBA.out.trans (hb7.mono HBA.out.size))
      have hst := HST.out
      clear hb7 hg7 e0 e1 e2
      go_wp2
      refine ⟨?_, ?_⟩
      · exact ⟨k + 1, q ||| 2 ^ f, by omega, by go_num, by first | rfl | rw [hwp, hor2], HO1.out, hid (by rw [HN.out, ← HQ.out]), HB7⟩
      · (simp [intOf]; try omega)
    · obtain rfl : k = l.length := by omega
      obtain rfl : q = mm := by rw [HQ.out, List.take_length, HM.out]
      go_wp2
      go_ret
      exact ⟨rfl, HB.out⟩
end Go.Proofs.Ytpoaadjhaknhdaa

/- margin: Intact, Margin; slices.Contains. -/
namespace Go.Proofs.Ytpoaadjhaknhdaa
open Go Go.RowKit Go.Sort Go.Deep

theorem pop_or : ∀ m : Nat, m < 16 → ∀ f : Nat, f < 4 → m.testBit f = false → popK (m ||| 2 ^ f) 63 = popK m 63 + 1 := by decide +kernel
theorem bit_or : ∀ m : Nat, m < 16 → ∀ f : Nat, f < 4 → ∀ q : Nat, q < 4 → (m ||| 2 ^ f).testBit q = (m.testBit q || decide (q = f)) := by decide +kernel
theorem mask_bit (q : Nat) (hq : q < 4) : ∀ (n : Nat) (l : List (Nat × Int)), l.length = n → (∀ x ∈ l, x.1 < 4) → (maskOf l).testBit q = decide (q ∈ l.map (·.1))
  | 0, l, h, _ => by
    obtain rfl : l = [] := List.eq_nil_of_length_eq_zero h
    simp [maskOf]
  | n + 1, l, h, hl => by
    have hne : l ≠ [] := by rintro rfl; simp at h
    obtain ⟨r, x, rfl⟩ : ∃ r x, l = r ++ [x] := ⟨l.dropLast, l.getLast hne, (List.dropLast_concat_getLast hne).symm⟩
    have hr : ∀ y ∈ r, y.1 < 4 := fun y hy => hl y (by simp [hy])
    rw [mask_snoc, bit_or _ (mask_lt r hr) _ (hl x (by simp)) q hq, mask_bit q hq n r (by simpa using h) hr]
    simp only [List.map_append, List.mem_append, List.map_cons, List.map_nil, List.mem_singleton]
    by_cases h1 : q ∈ r.map (·.1) <;> by_cases h2 : q = x.1 <;> simp [h1, h2]
theorem pop_mask : ∀ (n : Nat) (l : List (Nat × Int)), l.length = n → (∀ x ∈ l, x.1 < 4) → (l.map (·.1)).Nodup → popK (maskOf l) 63 = n
  | 0, l, h, _, _ => by
    obtain rfl : l = [] := List.eq_nil_of_length_eq_zero h
    decide +kernel
  | n + 1, l, h, hl, hd => by
    have hne : l ≠ [] := by rintro rfl; simp at h
    obtain ⟨r, x, rfl⟩ : ∃ r x, l = r ++ [x] := ⟨l.dropLast, l.getLast hne, (List.dropLast_concat_getLast hne).symm⟩
    have hr : ∀ y ∈ r, y.1 < 4 := fun y hy => hl y (by simp [hy])
    rw [List.map_append, List.nodup_append] at hd
    rw [mask_snoc, pop_or _ (mask_lt r hr) _ (hl x (by simp)), pop_mask n r (by simpa using h) hr hd.1]
    rw [mask_bit _ (hl x (by simp)) _ r rfl hr, decide_eq_false_iff_not]
    intro hm
    exact hd.2.2 _ hm x.1 (by simp) rfl
section
variable {w : World} {v : Value} {l : List (Nat × Int)}
set_option maxRecDepth 100000 in
theorem intact_any (h : CopiesAt w v l) (hd : (l.map (·.1)).Nodup) (s : Nat) (hs : s < 4) : Calls Try.prog 22 #[v, .int .i64 (s : Int)] w fun e w' => ∃ A c, e = .returned (.slice A l.length c) ∧ Below w.heap.size w w' := by
  have hp := pop_mask l.length l rfl h.1 hd
  have hm := mask_lt l h.1
  have HF := hid (fragments_any h s hs)
  generalize maskOf l = m at *
  have HP := hid hp
  clear hp hd h
  go_enter Try.func22, Try.ntmps22
  go_wp2_with fail
  refine HF.out.mono ?_
  rintro e w2 ⟨rfl, hb2⟩
  go_wp2_with fail
  refine (members_any m hm w2).mono ?_
  rintro e w3 ⟨A, c, rfl, hb3⟩
  rw [HP.out]
  have HB := hid (hb2.trans (hb3.mono hb2.size))
  clear hb2 hb3
  go_wp2
  go_ret
  exact ⟨_, _, rfl, HB.out⟩
set_option maxRecDepth 100000 in
set_option maxHeartbeats 1600000 in
theorem margin_any (h : CopiesAt w v l) (hd : (l.map (·.1)).Nodup) (hl : l.length ≤ 4) (k s : Nat) (hk : 1 ≤ k ∧ k ≤ 6) (hs : 1 ≤ s ∧ s ≤ 4) : Calls Try.prog 9 #[.int .i64 (k : Int), .int .i64 (s : Int), v] w fun e w' => e = .returned (.tuple #[.int .i64 ((l.length : Int) - (k : Int)), .int .i64 0]) ∧ Below w.heap.size w w' := by
  obtain ⟨hk1, hk2⟩ := hk
  obtain ⟨hs1, hs2⟩ := hs
  have HH := hid h
  have HD := hid hd
  obtain ⟨n, hn⟩ : ∃ n, l.length = n := ⟨_, rfl⟩
  rw [hn] at hl ⊢
  have HN := hid hn
  clear h hd hn
  go_enter Try.func9, Try.ntmps9
  go_wp2_with fail
  refine (margin_valid k s ⟨by omega, by omega⟩ ⟨by omega, by omega⟩ w).mono ?_
  rintro e w2 ⟨rfl, rfl⟩
  go_wp2_with fail
  go_loopw [8, 15] (fun m i wr => ∃ q r : Nat, q ≤ s ∧ i = .int .i64 q ∧ m = .int .i64 r ∧ r ≤ 8 ∧ n ≤ r ∧ Hid (0 < q → r = n) ∧ Hid (Below w.heap.size w wr)) (fun _ i _ => (s - intOf i).toNat)
  case atStart => exact ⟨0, 8, Nat.zero_le _, rfl, rfl, by omega, by omega, hid (fun h => by omega), hid (Below.refl _ _)⟩
  case round =>
    obtain ⟨q, r, hq, rfl, rfl, hr, hnr, HQ, HB⟩ := hrel
    by_cases hlt : q < s
    · go_wp2_with fail
      refine (intact_any (HH.out.below HB.out) HD.out q (by omega)).mono ?_
      rintro e w3 ⟨A, c, rfl, hb3⟩
      rw [HN.out]
      have HB3 := hid (HB.out.trans (hb3.mono HB.out.size))
      clear hb3
      go_wp2
      refine ⟨?_, ?_⟩
      · exact ⟨q + 1, n, by omega, by go_num, (by congr 1; split <;> omega), by omega, Nat.le_refl _, hid (fun _ => rfl), HB3⟩
      · (simp [intOf]; try omega)
    · obtain rfl : q = s := by omega
      obtain rfl : r = n := HQ.out (by omega)
      go_wp2
      go_ret2
      exact ⟨rfl, HB.out⟩
end
/-- A slice of given numbers. -/
def ListAt (w : World) (v : Value) (l : List Int) : Prop := ∃ A c, v = .slice A l.length c ∧ l.length ≤ c ∧ c ≤ maxLen ∧ (0 < l.length → ∃ g off, A = some ⟨g, off, none⟩ ∧ g < w.heap.size ∧ ∀ j (h : j < l.length), w.cell? ⟨g, off + j, none⟩ = some (.int .i64 l[j]))
theorem ListAt.below {w w' : World} {v : Value} {l : List Int} (h : ListAt w v l) (hb : Below w.heap.size w w') : ListAt w' v l := by
  obtain ⟨A, c, e, h1, h2, h3⟩ := h
  refine ⟨A, c, e, h1, h2, fun h0 => ?_⟩
  obtain ⟨g, off, e2, hg, h4⟩ := h3 h0
  exact ⟨g, off, e2, Nat.lt_of_lt_of_le hg hb.size, fun j hj => (hb.cell (p := ⟨g, off + j, none⟩) hg).trans (h4 j hj)⟩
set_option maxRecDepth 100000 in
theorem index_any {w : World} {v : Value} {l : List Int} (h : ListAt w v l) (x : Int) : Calls Try.prog 28 #[v, .int .i64 x] w fun e w' => (∃ q : Int, e = .returned (.int .i64 q) ∧ (0 ≤ q ↔ x ∈ l)) ∧ w = w' := by
  obtain ⟨A, c, rfl, hc, hm, hs⟩ := h
  have HS := hid hs
  clear hs
  unfold maxLen at hm
  go_enter Try.func28, Try.ntmps28
  go_wp2_with fail
  go_loop [8] (fun i => ∃ k : Nat, k ≤ l.length ∧ i = .int .i64 k ∧ Hid (x ∉ l.take k)) (fun i => (l.length - intOf i).toNat)
  case atStart => exact ⟨0, Nat.zero_le _, rfl, hid (by simp)⟩
  case round =>
    obtain ⟨k, hk, rfl, HN⟩ := hrel
    by_cases hlt : k < l.length
    · obtain ⟨g, off, rfl, hg, hc2⟩ := HS.out (by omega)
      have z0 := hc2 k hlt
      have HT := hid (show l.take (k + 1) = l.take k ++ [l[k]] from List.take_succ_eq_append_getElem hlt)
      have HL := hid (List.getElem_mem hlt)
      generalize l[k] = y at *
      clear hc2
      by_cases hxy : x = y
      · subst hxy
        go_wp2
        go_ret
        exact ⟨⟨_, rfl, by simp [HL.out]⟩, rfl⟩
      · have hb : (x == y) = false := by rw [beq_eq_false_iff_ne]; exact hxy
        go_wp2
        go_round
        case rel => exact ⟨k + 1, by omega, by go_num, hid (by rw [HT.out, List.mem_append]; rintro (e | e); exact HN.out e; simp at e; exact hxy e)⟩
        case measure => (simp [intOf]; try omega)
    · obtain rfl : k = l.length := by omega
      go_wp2
      go_ret
      exact ⟨⟨-1, rfl, by have := HN.out; rw [List.take_length] at this; simp [this]⟩, rfl⟩
theorem contains_any {w : World} {v : Value} {l : List Int} (h : ListAt w v l) (x : Int) : Calls Try.prog 23 #[v, .int .i64 x] w fun e w' => e = .returned (.bool (decide (x ∈ l))) ∧ w = w' := by
  have H := hid h
  obtain ⟨A, c, rfl, _⟩ := h
  by_cases hx : x ∈ l
  · rw [decide_eq_true hx]
    have HX := hid hx
    clear hx
    go_enter Try.func23, Try.ntmps23
    go_wp2_with fail
    refine (index_any H.out x).mono ?_
    rintro e w2 ⟨⟨q, rfl, hq⟩, rfl⟩
    have hq0 := hq.2 HX.out
    clear hq
    go_wp2
    go_ret
    exact ⟨by first | (simp; omega) | (simp; done), rfl⟩
  · rw [decide_eq_false hx]
    have HX := hid hx
    clear hx
    go_enter Try.func23, Try.ntmps23
    go_wp2_with fail
    refine (index_any H.out x).mono ?_
    rintro e w2 ⟨⟨q, rfl, hq⟩, rfl⟩
    have hq0 : ¬ 0 ≤ q := fun e => HX.out (hq.1 e)
    clear hq
    go_wp2
    go_ret
    exact ⟨by first | (simp; omega) | (simp; done), rfl⟩
end Go.Proofs.Ytpoaadjhaknhdaa

/- margin: Survives. -/
namespace Go.Proofs.Ytpoaadjhaknhdaa
open Go Go.RowKit Go.Sort Go.Deep

theorem Try.info_copy : (Try.prog.info? 55).map (fun i => (i.zero, i.size, i.bytes)) = some (some (.agg #[.int .i64 0, .int .i64 0, .int .i64 0]), 3, 24) := by kernel_rfl
theorem cp_length (x : Nat × Int) : (cpCells x).length = 3 := rfl
theorem cp_one (x : Nat × Int) : ∀ u ∈ cpCells x, u.oneCell' = true := by
  intro u hu
  simp [cpCells] at hu
  rcases hu with rfl | rfl | rfl <;> rfl
theorem OwnSl.copies {w : World} {o : Own} {v : Value} {l : List (Nat × Int)} (h : OwnSl w o 3 v l.length (l.flatMap cpCells)) (h1 : ∀ x ∈ l, x.1 < 4) (h2 : l.length ≤ 100) : CopiesAt w v l := by
  refine ⟨h1, h2, ?_⟩
  rcases Nat.eq_zero_or_pos l.length with h0 | h0
  · rcases h.2 with ⟨rfl, _⟩ | ⟨g, off, c, rfl, _, _, hnc, hc, _⟩
    · exact ⟨none, 0, by rw [h0], by omega, Nat.zero_le _, fun h => by omega⟩
    · exact ⟨_, c, rfl, hnc, hc, fun h => by omega⟩
  · obtain ⟨g, off, c, rfl, _, hg, hnc, hc, hx, _⟩ := h.some_ h0
    refine ⟨_, c, rfl, hnc, hc, fun _ => ⟨g, off, rfl, hg, fun j hj => ?_⟩⟩
    have hf := fun q hq => flat_get cpCells 3 cp_length l j hj q hq
    exact ⟨hx _ _ ((hf 0 (by omega)).trans rfl), by rw [Nat.add_assoc]; exact hx _ _ ((hf 1 (by omega)).trans rfl), by rw [Nat.add_assoc]; exact hx _ _ ((hf 2 (by omega)).trans rfl)⟩
def leftOf (l : List (Nat × Int)) (D : List Int) : List (Nat × Int) := l.filter fun x => !decide (x.2 ∈ D)
theorem left_snoc (l : List (Nat × Int)) (x : Nat × Int) (D : List Int) : leftOf (l ++ [x]) D = leftOf l D ++ if x.2 ∈ D then [] else [x] := by
  unfold leftOf
  rw [List.filter_append]
  congr 1
  by_cases h : x.2 ∈ D <;> simp [h]
section
variable {w : World} {v vd : Value} {l : List (Nat × Int)} {D : List Int}
set_option maxRecDepth 100000 in
set_option maxHeartbeats 3200000 in
theorem survives_any (h : CopiesAt w v l) (hd : (l.map (·.1)).Nodup) (hl : l.length ≤ 4) (hD : ListAt w vd D) (k s : Nat) (hk : 1 ≤ k ∧ k ≤ 6) (hs : 1 ≤ s ∧ s ≤ 4) : Calls Try.prog 10 #[.int .i64 (k : Int), .int .i64 (s : Int), v, vd] w fun e w' => e = .returned (.bool (decide (k ≤ (leftOf l D).length))) ∧ Below w.heap.size w w' := by
  obtain ⟨i0, hi0, hz0, hz1, hz2⟩ := info_parts Try.info_copy
  obtain ⟨h1, h2, A, c, rfl, h3, h4, h5⟩ := h
  have H1 := hid h1
  have H5 := hid h5
  have HD := hid hD
  have HN := hid hd
  obtain ⟨Ad, cd, rfl, _⟩ := hD
  have hkk := hk
  have hss := hs
  have HK := hid hkk
  have HS := hid hss
  obtain ⟨hk1, hk2⟩ := hk
  obtain ⟨hs1, hs2⟩ := hs
  have HLL := hid (show (leftOf l D).length ≤ l.length from List.length_filter_le _ _)
  have HLM := hid (show ∀ x ∈ leftOf l D, x.1 < 4 from fun x hx => h1 x (List.mem_filter.1 hx).1)
  have HLN := hid (show ((leftOf l D).map (·.1)).Nodup from (List.filter_sublist.map _).nodup hd)
  obtain ⟨L, hL⟩ : ∃ L, leftOf l D = L := ⟨_, rfl⟩
  rw [hL] at HLL HLM HLN ⊢
  have HL := hid hL
  obtain ⟨b, hb⟩ : ∃ b, decide (k ≤ L.length) = b := ⟨_, rfl⟩
  rw [hb]
  have HBB := hid hb
  unfold maxLen at h4
  clear h1 h5 hd hL hb hkk hss
  go_enter Try.func10, Try.ntmps10
  go_wp2_with fail
  go_loopw [9, 16] (fun m i wr => ∃ q : Nat, q ≤ l.length ∧ i = .int .i64 q ∧ Hid (∃ o, OwnSl wr o 3 m (leftOf (l.take q) D).length ((leftOf (l.take q) D).flatMap cpCells) ∧ Above w.heap.size o) ∧ Hid (Below w.heap.size w wr)) (fun _ i _ => (l.length - intOf i).toNat)
  case atStart => exact ⟨0, Nat.zero_le _, rfl, hid ⟨NoOwn, OwnSl.nil _ _ _, fun _ e => e.elim⟩, hid (Below.refl _ _)⟩
  case round =>
    obtain ⟨q, hq, rfl, HO, HB⟩ := hrel
    by_cases hlt : q < l.length
    · obtain ⟨g, off, rfl, hg, hcell⟩ := H5.out (by omega)
      obtain ⟨a0, a1, a2⟩ := hcell q hlt
      have z0 := (HB.out.cell (p := ⟨g, off + q * 3, none⟩) hg).trans a0
      have z1 := (HB.out.cell (p := ⟨g, off + q * 3 + 1, none⟩) hg).trans a1
      have z2 := (HB.out.cell (p := ⟨g, off + q * 3 + 2, none⟩) hg).trans a2
      have HT := hid (show leftOf (l.take (q + 1)) D = leftOf (l.take q) D ++ if l[q].2 ∈ D then [] else [l[q]] by rw [List.take_succ_eq_append_getElem hlt, left_snoc])
      have hlq : (leftOf (l.take q) D).length ≤ 4 := Nat.le_trans (List.length_filter_le _ _) (by rw [List.length_take]; omega)
      obtain ⟨x, hx⟩ : ∃ x, l[q] = x := ⟨_, rfl⟩
      rw [hx] at z0 z1 HT
      obtain ⟨f, d⟩ := x
      dsimp only at z0 z1 HT
      obtain ⟨P, hP⟩ : ∃ P, leftOf (l.take q) D = P := ⟨_, rfl⟩
      rw [hP] at HT HO hlq
      obtain ⟨o, ho, hoa⟩ := HO.out
      obtain ⟨Ao, co, rfl, hco⟩ := ho.form
      have HOO := hid ho
      have HOA := hid hoa
      have HBS := hid HB.out.size
      clear a0 a1 a2 hcell hx hP ho hoa HO
      go_upto_region 5 with fail
      have hba := (Below.refl wr.heap.size wr).alloc (Nat.le_refl _) (.cells #[.int .i64 (f : Int), .int .i64 d, .int .i64 15] 55)
      have hga := heap_alloc_new wr (.cells #[.int .i64 (f : Int), .int .i64 d, .int .i64 15] 55)
      have HBA := hid (HB.out.trans (hba.mono HB.out.size))
      have HO5 := hid (HOO.out.below hba)
      have e0 := cell_block hga 0
      have e1 := cell_block hga 1
      have e2 := cell_block hga 2
      simp only [List.getElem?_toArray, List.getElem?_cons_zero, List.getElem?_cons_succ] at e0 e1 e2
      clear hba hga z0 z1 z2 HOO
      generalize wr.alloc (.cells #[.int .i64 (f : Int), .int .i64 d, .int .i64 15] 55) = we at *
      go_wp2_with fail
      refine (contains_any (HD.out.below HBA.out) d).mono ?_
      rintro e w7 ⟨rfl, rfl⟩
      by_cases hdm : d ∈ D
      · rw [decide_eq_true hdm]
        have HO7 := hid (show ∃ o, OwnSl we o 3 (.slice Ao P.length co) (leftOf (l.take (q + 1)) D).length ((leftOf (l.take (q + 1)) D).flatMap cpCells) ∧ Above w.heap.size o from ⟨o, by rw [HT.out, if_pos hdm, List.append_nil]; exact HO5.out, HOA.out⟩)
        clear hdm
        go_wp2
        refine ⟨?_, ?_⟩
        · exact ⟨q + 1, by omega, by go_num, HO7, HBA⟩
        · (simp [intOf]; try omega)
      · rw [decide_eq_false hdm]
        have HDM := hid hdm
        clear hdm
        go_wp2_with (at_builtin; refine wpList_append_sl (by rfl) (.tmp 25) (.tmp 27) 53 (by rfl) 55 i0 _ 3 24 Try.underlying53 hi0 hz0 hz1 hz2 rfl (by decide) o _ (.slice (some ⟨we.heap.size, 0, none⟩) 1 1) P.length 1 (P.flatMap cpCells) (cpCells (f, d)) (by rfl) (by rfl) (HO5.out.below ((Below.refl _ _).alloc (Nat.le_refl _) _)) ⟨rfl, .inr ⟨_, 1, rfl, World.news_of_block (cs := (cpCells (f, d)).toArray) (fr := (0, 0)) (heap_alloc_new we _)⟩⟩ (cp_one _) (by unfold maxLen; omega) (by omega) ?_)
        intro v8 w8 hown8 hgrow
        have hbs := HBA.out.size
        have HB8 := hid (below_of_fr (HBA.out.alloc hbs _) hgrow HOA.out (by simp; omega))
        have HO8 := hid (show ∃ o, OwnSl w8 o 3 v8 (leftOf (l.take (q + 1)) D).length ((leftOf (l.take (q + 1)) D).flatMap cpCells) ∧ Above w.heap.size o from ⟨_, by rw [HT.out, if_neg HDM.out, List.length_append, List.flatMap_append]; simpa using hown8, hgrow.mv.above HOA.out (by simp; omega)⟩)
        clear hown8 hgrow HO5 HOA e0 e1 e2
        go_wp2
        refine ⟨?_, ?_⟩
        · exact ⟨q + 1, by omega, by go_num, HO8, HB8⟩
        · (simp [intOf]; try omega)
    · obtain rfl : q = l.length := by omega
      obtain ⟨o, ho, _⟩ := HO.out
      rw [List.take_length, HL.out] at ho
      have HCP := hid (ho.copies HLM.out (by have := HLL.out; omega))
      obtain ⟨Ao, co, rfl, hco⟩ := ho.form
      clear ho HO
      go_wp2_with fail
      refine (margin_any HCP.out HLN.out (by have := HLL.out; omega) k s HK.out HS.out).mono ?_
      rintro e w7 ⟨rfl, hb7⟩
      have HB7 := hid (HB.out.trans (hb7.mono HB.out.size))
      clear hb7
      generalize L.length = n at *
      cases b
      · have := of_decide_eq_false HBB.out
        have hlt : ¬ (0 : Int) ≤ (n : Int) - (k : Int) := by omega
        go_wp2
        go_ret
        exact ⟨by first | rfl | (simp; omega), HB7.out⟩
      · have := of_decide_eq_true HBB.out
        have hge : (0 : Int) ≤ (n : Int) - (k : Int) := by omega
        go_wp2
        go_ret
        exact ⟨by first | rfl | (simp; omega), HB7.out⟩
end
end Go.Proofs.Ytpoaadjhaknhdaa
