/- Combine, word. -/
import Derived.Test.YtgeopgibjmhehaaV2
namespace Go.Proofs.Ytgeopgibjmhehaa
open Go Go.RowKit Go.Sort
attribute [local go_sem ↓] Go.wp_at_zero Go.wp_at_succ

theorem ByteSl.at_ {w : World} {v : Value} {l : List B8} {n : Nat} (h : ByteSl w v l) (hl : l.length = n) (hn : 0 < n) : ∃ b off c, v = .slice (some ⟨b, off, none⟩) n c ∧ b < w.heap.size ∧ ∀ k (h : k < n), w.cell? ⟨b, off + k, none⟩ = some (b8 (l.getD k 0#8)) := by
  subst hl
  obtain ⟨b, off, c, h1, h2, h3⟩ := h.some_ hn
  refine ⟨b, off, c, h1, h2, fun k hk => ?_⟩
  rw [h3 k hk, List.getD_eq_getElem?_getD, List.getElem?_eq_getElem hk]
  rfl
theorem RowsSl.at_ {w : World} {v : Value} {ls : List (List B8)} {n : Nat} (h : RowsSl w v ls) (hl : ls.length = n) (hn : 0 < n) : ∃ b off c, v = .slice (some ⟨b, off, none⟩) n c ∧ b < w.heap.size ∧ ∀ k (h : k < n), ∃ u, w.cell? ⟨b, off + k, none⟩ = some u ∧ ByteSl w u (ls.getD k []) := by
  subst hl
  obtain ⟨b, off, c, h1, h2, h3⟩ := h.some_ hn
  refine ⟨b, off, c, h1, h2, fun k hk => ?_⟩
  obtain ⟨u, hu, h4⟩ := h3 k hk
  refine ⟨u, hu, ?_⟩
  rw [List.getD_eq_getElem?_getD, List.getElem?_eq_getElem hk]
  exact h4
theorem row_len {ls : List (List B8)} {m n : Nat} (hl : ls.length = m) (h : ∀ r ∈ ls, r.length = n) (k : Nat) (hk : k < m) : (ls.getD k []).length = n := by
  rw [List.getD_eq_getElem?_getD, List.getElem?_eq_getElem (by omega)]
  exact h _ (List.getElem_mem _)
/-- A row added to another as far as place p. -/
def addTo (c : B8) (row out : List B8) (p : Nat) : List B8 := addRow c (row.take p) (out.take p) ++ out.drop p
theorem addTo_zero (c : B8) (row out : List B8) : addTo c row out 0 = out := by simp [addTo, addRow]
theorem addTo_all (c : B8) (row out : List B8) (n : Nat) (h1 : row.length = n) (h2 : out.length = n) : addTo c row out n = addRow c row out := by
  unfold addTo
  rw [List.take_of_length_le (by omega), List.take_of_length_le (by omega), List.drop_of_length_le (by omega), List.append_nil]
theorem addTo_length (c : B8) (row out : List B8) (n p : Nat) (h1 : row.length = n) (h2 : out.length = n) (hp : p ≤ n) : (addTo c row out p).length = n := by
  unfold addTo
  rw [List.length_append, addRow_length _ _ _ (by simp; omega)]
  simp; omega
theorem addTo_at (c : B8) (row out : List B8) (n p : Nat) (h1 : row.length = n) (h2 : out.length = n) (hp : p < n) : (addTo c row out p).getD p 0#8 = out.getD p 0#8 := by
  unfold addTo
  have hl : (addRow c (row.take p) (out.take p)).length = p := by rw [addRow_length _ _ _ (by simp; omega)]; simp; omega
  simp only [List.getD_eq_getElem?_getD]
  rw [List.getElem?_append_right (by omega), hl, Nat.sub_self, List.getElem?_drop, Nat.add_zero]
theorem addTo_set (c : B8) (row out : List B8) (n p : Nat) (h1 : row.length = n) (h2 : out.length = n) (hp : p < n) : (addTo c row out p).set p (out.getD p 0#8 ^^^ gmul c (row.getD p 0#8)) = addTo c row out (p + 1) := by
  unfold addTo
  have hl : (addRow c (row.take p) (out.take p)).length = p := by rw [addRow_length _ _ _ (by simp; omega)]; simp; omega
  rw [List.set_append, if_neg (by omega), hl, Nat.sub_self]
  have e : addRow c (row.take (p + 1)) (out.take (p + 1)) = addRow c (row.take p) (out.take p) ++ [out.getD p 0#8 ^^^ gmul c (row.getD p 0#8)] := by
    unfold addRow
    rw [List.take_succ_eq_append_getElem (by omega : p < row.length), List.take_succ_eq_append_getElem (by omega : p < out.length), List.zipWith_append (by simp; omega)]
    simp only [List.getD_eq_getElem?_getD, List.getElem?_eq_getElem (show p < row.length by omega), List.getElem?_eq_getElem (show p < out.length by omega)]
    rfl
  rw [e, List.append_assoc]
  congr 1
  rw [List.drop_eq_getElem_cons (by omega : p < out.length)]
  rfl
theorem comb_snoc : ∀ (i : Nat) (c : List B8) (rows : List (List B8)) (out : List B8), i < c.length → i < rows.length → comb (c.take (i + 1)) (rows.take (i + 1)) out = addRow (c.getD i 0#8) (rows.getD i []) (comb (c.take i) (rows.take i) out)
  | 0, c :: _, r :: _, out, _, _ => rfl
  | i + 1, c :: cs, r :: rs, out, h1, h2 => by
    show comb (cs.take (i + 1)) (rs.take (i + 1)) (addRow c r out) = addRow (cs.getD i 0#8) (rs.getD i []) (comb (cs.take i) (rs.take i) (addRow c r out))
    exact comb_snoc i cs rs _ (by simpa using h1) (by simpa using h2)
  | _, [], _, _, h, _ => by simp at h
  | _, _ :: _, [], _, _, h => by simp at h
/-- The sum of the first i rows. -/
def sumTo (c : List B8) (rows : List (List B8)) (n i : Nat) : List B8 := comb (c.take i) (rows.take i) (List.replicate n 0#8)
theorem sumTo_length (c : List B8) (rows : List (List B8)) (n i : Nat) (h : ∀ r ∈ rows, r.length = n) : (sumTo c rows n i).length = n := by
  unfold sumTo
  rw [comb_length _ _ _ (fun r hr => by rw [h r (List.mem_of_mem_take hr)]; simp)]
  simp
theorem sumTo_all (c : List B8) (rows : List (List B8)) (n m : Nat) (h : ∀ r ∈ rows, r.length = n) (hc : c.length = m) (hr : rows.length = m) (hm : 0 < m) : sumTo c rows n m = combine c rows := by
  have h0 : (rows.headD []).length = n := by
    cases rows with
    | nil => simp at hr; omega
    | cons r rs => exact h r (by simp)
  unfold sumTo combine
  rw [List.take_of_length_le (by omega), List.take_of_length_le (by omega), h0]
set_option maxRecDepth 100000 in
set_option maxHeartbeats 2000000 in
theorem combine_any {vc vr : Value} {c : List B8} {rows : List (List B8)} {m n : Nat} {w : World} (hc : ByteSl w vc c) (hr : RowsSl w vr rows) (hcm : c.length = m) (hrm : rows.length = m) (hrn : ∀ r ∈ rows, r.length = n) (hm : 0 < m) (hm2 : m ≤ 10) (hn : 0 < n) (hn2 : n ≤ 1000) :
    Calls Try.prog 33 #[vc, vr] w fun e w' => e = .returned (.tuple #[.slice (some ⟨w.heap.size, 0, none⟩) n n, .int .i64 0]) ∧ ByteBox w' w.heap.size (combine c rows) ∧ Below w.heap.size w w' := by
  obtain ⟨bc, oc, cc, rfl, hbc, hcc⟩ := hc.at_ hcm hm
  obtain ⟨br, or, cr, rfl, hbr, hcr⟩ := hr.at_ hrm hm
  obtain ⟨u0, hu0, hs0⟩ := hcr 0 hm
  obtain ⟨b0, o0, c0, rfl, _, _⟩ := hs0.at_ (row_len hrm hrn 0 hm) hn
  rw [Nat.add_zero] at hu0
  have HCC := hid hcc
  have HCR := hid hcr
  have HRN := hid (row_len hrm hrn)
  have HSL := hid (fun i => sumTo_length c rows n i hrn)
  have HSN := hid (fun i (h : i < m) => comb_snoc i c rows (List.replicate n 0#8) (by omega) (by omega))
  have HSA := hid (sumTo_all c rows n m hrn hcm hrm hm)
  clear hcc hcr hrn hcm hrm hc hr hs0
  go_enter Try.func33, Try.ntmps33
  go_wp2_with (refine wpList_mk (by rfl) (.tmp 24) (.tmp 24) 22 5 (.int .u8 0) 1 (by rfl) Try.underlying22 Try.info_b8 rfl n (by omega) (by omega) (by rfl) (by rfl) ?_)
  intro w1 hv1 hlt1 hb1
  rw [zero_cells] at hv1
  have HV := hid (show ByteBox w1 w.heap.size (sumTo c rows n 0) from hv1)
  have HB := hid hb1
  clear hv1 hb1 hlt1 hu0
  go_wp2
  go_loopw [28] (fun i wr => ∃ j : Nat, j ≤ m ∧ i = .int .i64 j ∧ Hid (ByteBox wr w.heap.size (sumTo c rows n j)) ∧ Hid (Below w.heap.size w wr)) (fun i _ => (m - intOf i).toNat)
  case atStart => exact ⟨0, Nat.zero_le _, rfl, HV, HB⟩
  case round =>
    clear HV HB
    obtain ⟨i, hi, rfl, hbx, hbw⟩ := hrel
    by_cases hlt : i < m
    · obtain ⟨u, hu, hs⟩ := HCR.out i hlt
      have HRL := hid (HRN.out i hlt)
      have HSI := hid (HSN.out i hlt)
      generalize hrow : rows.getD i [] = row at *
      generalize hci : c.getD i 0#8 = ci at *
      have HCI := hid hci
      obtain ⟨bi, oi, cap, rfl, hbi, hcell⟩ := hs.at_ HRL.out hn
      have HCE := hid hcell
      have hu1 := (hbw.out.cell (p := ⟨br, or + i, none⟩) hbr).trans hu
      obtain ⟨out, hout⟩ : ∃ out, sumTo c rows n i = out := ⟨_, rfl⟩
      have HO := hid hout
      have HOL := hid (show out.length = n by rw [← hout]; exact HSL.out i)
      rw [hout] at hbx
      clear hu hs hcell hrow hci hout
      go_wp2
      obtain ⟨wo, rfl⟩ : ∃ wo : World, wo = wr := ⟨_, rfl⟩
      go_loopw [40] (fun q wx => ∃ p : Nat, p ≤ n ∧ q = .int .i64 p ∧ Hid (ByteBox wx w.heap.size (addTo ci row out p)) ∧ Hid (Below w.heap.size w wx)) (fun q _ => (n - intOf q).toNat)
      case atStart => exact ⟨0, Nat.zero_le _, rfl, hid (by rw [addTo_zero]; exact hbx.out), hbw⟩
      case round =>
        clear hbx hbw hu1
        obtain ⟨p, hp, rfl, hbx, hbw⟩ := hrel
        by_cases hlp : p < n
        · have HAL := hid (addTo_length ci row out n p HRL.out HOL.out (by omega))
          have hg := ByteBox.get hbx.out p (by rw [HAL.out]; exact hlp)
          have hga : (addTo ci row out p)[p]'(by rw [HAL.out]; exact hlp) = out.getD p 0#8 := by
            rw [← addTo_at ci row out n p HRL.out HOL.out hlp, List.getD_eq_getElem?_getD, List.getElem?_eq_getElem]
            rfl
          rw [hga] at hg
          have hf := ByteBox.room hbx.out p (by rw [HAL.out]; exact hlp)
          have hpt : ∀ k, ByteBox ((wr.drewN k).setCell ⟨w.heap.size, p, none⟩ (b8 (out.getD p 0#8 ^^^ gmul ci (row.getD p 0#8)))) w.heap.size (addTo ci row out (p + 1)) := fun k => by
            have := ByteBox.put (w := wr.drewN k) (ValsAt.of_block hbx.out (Nat.le_refl _) rfl) p (by rw [HAL.out]; exact hlp) (out.getD p 0#8 ^^^ gmul ci (row.getD p 0#8))
            rwa [addTo_set ci row out n p HRL.out HOL.out hlp] at this
          have HP := hid hpt
          have hrc := (hbw.out.cell (p := ⟨bi, oi + p, none⟩) hbi).trans (HCE.out p hlp)
          have hcc := (hbw.out.cell (p := ⟨bc, oc + i, none⟩) hbc).trans (HCC.out i hlt)
          rw [HCI.out] at hcc
          generalize out.getD p 0#8 = x at *
          generalize row.getD p 0#8 = y at *
          clear hga hpt
          go_upto_region 12 with fail
          have hgq : ∀ k, (wr.drewN k).cell? ⟨w.heap.size, p, none⟩ = some (b8 x) := fun _ => hg
          have hcq : ∀ k, (wr.drewN k).cell? ⟨bc, oc + i, none⟩ = some (b8 ci) := fun _ => hcc
          refine wp_region_quiet_tail 12 (fun w' => ∃ k, w' = wr.drewN k) ⟨1, rfl⟩ (by kernel_rfl) (by kernel_rfl) ?_
          simp only [List.take_succ_cons, List.take_zero, List.drop_succ_cons, List.drop_zero]
          repeat (go_big_quiet_step ((go_at_call 38; exact quiet_left (mul_any _ _ _))))
          refine wpQuiet_nil ?_
          rintro _ ⟨nq, rfl⟩
          rw [xor_b8]
          have hf2 : (wr.drewN nq).frozen? ⟨w.heap.size, p, none⟩ = false := hf
          go_wp2
          go_roundw
          case rel => exact ⟨p + 1, by omega, by go_num, HP.out nq |> hid, hid ((below_drewN hbw.out nq).setCell (p := ⟨w.heap.size, p, none⟩) (Nat.le_refl _) _)⟩
          case measure => (simp [intOf]; try omega)
        · obtain rfl : p = n := by omega
          go_wp2
          go_roundw
          case rel => exact ⟨i + 1, by omega, by go_num, hid (by rw [show sumTo c rows p (i + 1) = addRow ci row out by rw [← HO.out]; exact HSI.out, ← addTo_all ci row out p HRL.out HOL.out]; exact hbx.out), hbw⟩
          case measure => (simp [intOf]; try omega)
    · obtain rfl : i = m := by omega
      go_wp2
      go_ret2
      exact ⟨rfl, by rw [← HSA.out]; exact hbx.out, hbw.out⟩
end Go.Proofs.Ytgeopgibjmhehaa
