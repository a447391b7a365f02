/- Invert. -/
import Derived.Test.YtgeopgibjmhehaaV7
namespace Go.Proofs.Ytgeopgibjmhehaa
open Go Go.RowKit Go.Sort
attribute [local go_sem ↓] Go.wp_at_zero Go.wp_at_succ

theorem wide_length (a : List (List B8)) : (wide a).length = a.length := by simp [wide]
theorem wide_get (a : List (List B8)) (n i : Nat) (hn : a.length = n) (hi : i < n) : (wide a).getD i [] = a.getD i [] ++ coefs n i := by
  subst hn
  unfold wide
  rw [List.getD_eq_getElem?_getD, List.getElem?_mapIdx, List.getD_eq_getElem?_getD, List.getElem?_eq_getElem hi]
  simp [coefs, hi]
theorem wide_take (a : List (List B8)) (n i : Nat) (hn : a.length = n) (hi : i < n) : (wide a).take (i + 1) = (wide a).take i ++ [a.getD i [] ++ coefs n i] := by
  rw [List.take_succ_eq_append_getElem (by rw [wide_length]; omega)]
  congr 2
  rw [← wide_get a n i hn hi, List.getD_eq_getElem?_getD, List.getElem?_eq_getElem (by rw [wide_length]; omega)]
  rfl
theorem wide_row (r : List B8) (n i : Nat) (hr : r.length = n) (hi : i < n) : (r.take n ++ (List.replicate (2 * n) 0#8).drop n).set (n + i) 1#8 = r ++ coefs n i := by
  rw [List.take_of_length_le (by omega), List.drop_replicate, show 2 * n - n = n by omega, List.set_append, if_neg (by omega), hr, show n + i - n = i by omega, coefs_one n i hi]
/-- A row, scaled as far as place j. -/
def scaleTo (f : B8) (r : List B8) (j : Nat) : List B8 := (r.take j).map (fun x => gmul x f) ++ r.drop j
theorem scaleTo_length (f : B8) (r : List B8) (j : Nat) : (scaleTo f r j).length = r.length := by simp [scaleTo]; omega
theorem scaleTo_zero (f : B8) (r : List B8) : scaleTo f r 0 = r := by simp [scaleTo]
theorem scaleTo_all (f : B8) (r : List B8) (n : Nat) (h : r.length = n) : scaleTo f r n = scale r f := by
  unfold scaleTo scale
  rw [List.take_of_length_le (by omega), List.drop_of_length_le (by omega), List.append_nil]
theorem scaleTo_at (f : B8) (r : List B8) (j : Nat) (h : j < r.length) : (scaleTo f r j).getD j 0#8 = r.getD j 0#8 := by
  unfold scaleTo
  simp only [List.getD_eq_getElem?_getD]
  rw [List.getElem?_append_right (by simp; omega), List.length_map, List.length_take, show j - min j r.length = 0 by omega, List.getElem?_drop, Nat.add_zero]
theorem scaleTo_set (f : B8) (r : List B8) (j : Nat) (h : j < r.length) : (scaleTo f r j).set j (gmul (r.getD j 0#8) f) = scaleTo f r (j + 1) := by
  unfold scaleTo
  rw [List.set_append, if_neg (by simp; omega), List.length_map, List.length_take, show j - min j r.length = 0 by omega, List.take_succ_eq_append_getElem h, List.map_append, List.append_assoc]
  congr 1
  rw [List.drop_eq_getElem_cons h, List.getD_eq_getElem?_getD, List.getElem?_eq_getElem h]
  rfl
/-- The first i rows, less their parts of row k. -/
def elimsTo (k : Nat) (rk : List B8) (rows : List (List B8)) (i : Nat) : List (List B8) := rows.mapIdx fun q r => if q < i then elim k rk q r else r
theorem elimsTo_length (k : Nat) (rk : List B8) (rows : List (List B8)) (i : Nat) : (elimsTo k rk rows i).length = rows.length := by simp [elimsTo]
theorem elimsTo_zero (k : Nat) (rk : List B8) (rows : List (List B8)) : elimsTo k rk rows 0 = rows := by
  unfold elimsTo
  refine List.ext_getElem (by simp) fun i h1 h2 => ?_
  simp
theorem elimsTo_all (k : Nat) (rows : List (List B8)) (n : Nat) (h : rows.length = n) : elimsTo k (rows.getD k []) rows n = elims k rows := by
  unfold elimsTo elims
  refine List.ext_getElem (by simp) fun i h1 h2 => ?_
  simp at h1
  simp [show i < n by omega]
theorem elimsTo_get (k : Nat) (rk : List B8) (rows : List (List B8)) (i q : Nat) (hq : q < rows.length) : (elimsTo k rk rows i).getD q [] = if q < i then elim k rk q (rows.getD q []) else rows.getD q [] := by
  unfold elimsTo
  simp only [List.getD_eq_getElem?_getD]
  rw [List.getElem?_mapIdx, List.getElem?_eq_getElem hq]
  rfl
theorem elimsTo_set (k : Nat) (rk : List B8) (rows : List (List B8)) (i : Nat) (hi : i < rows.length) : (elimsTo k rk rows i).set i (elim k rk i (rows.getD i [])) = elimsTo k rk rows (i + 1) := by
  refine List.ext_getElem (by simp [elimsTo]) fun q h1 h2 => ?_
  have hq : q < rows.length := by simpa [elimsTo] using h2
  have e1 := getD_set (elimsTo k rk rows i) i q (elim k rk i (rows.getD i [])) [] (by rw [elimsTo_length]; exact hi)
  rw [elimsTo_get k rk rows i q hq] at e1
  have e2 := elimsTo_get k rk rows (i + 1) q hq
  rw [List.getD_eq_getElem?_getD, List.getElem?_eq_getElem h1] at e1
  rw [List.getD_eq_getElem?_getD, List.getElem?_eq_getElem h2] at e2
  simp only [Option.getD_some] at e1 e2
  rw [e1, e2]
  by_cases h : q = i
  · subst h; rw [if_pos rfl, if_pos (by omega)]
  · rw [if_neg h]
    by_cases h3 : q < i
    · rw [if_pos h3, if_pos (by omega)]
    · rw [if_neg h3, if_neg (by omega)]
theorem set_getD {α : Type} (l : List α) (k : Nat) (d : α) (h : k < l.length) : l.set k (l.getD k d) = l := by
  rw [List.getD_eq_getElem?_getD, List.getElem?_eq_getElem h]
  exact List.set_getElem_self h
theorem elim_self (k : Nat) (rk r : List B8) : elim k rk k r = r := by unfold elim; rw [if_neg (by simp)]
/-- The list of rows, as far as place j; a row may lie anywhere but in the list's own block. -/
def PartB (w : World) (g k j n : Nat) (ls : List (List B8)) : Prop := ∃ vs : List Value, vs.length = k ∧ ValsAt w g vs ∧ ∀ i, i < j → ∃ b off c, vs[i]? = some (.slice (some ⟨b, off, none⟩) n c) ∧ b ≠ g ∧ ByteAt w b off (ls.getD i [])
theorem PartB.rows {w : World} {g k n : Nat} {ls : List (List B8)} (h : PartB w g k k n ls) (hl : ls.length = k) (hr : ∀ r ∈ ls, r.length = n) (hk : k ≤ maxLen) (hn : n ≤ maxLen) (c : Nat) : RowsSl w (.slice (some ⟨g, 0, none⟩) k c) ls := by
  obtain ⟨vs, hv, hx, hb⟩ := h
  subst hl
  refine ⟨vs, ⟨by omega, hk, some ⟨g, 0, none⟩, c, rfl, fun _ => ⟨g, 0, rfl, hx.lt, fun j u hu => ?_⟩⟩, fun i hi => ?_⟩
  · have hj := (List.getElem?_eq_some_iff.1 hu).1
    rw [Nat.zero_add, hx.cell j hj]
    rw [List.getElem?_eq_getElem hj] at hu
    exact hu
  · obtain ⟨b, off, c', e, _, hy⟩ := hb i hi
    refine ⟨_, e, ?_⟩
    rw [List.getD_eq_getElem?_getD, List.getElem?_eq_getElem hi] at hy
    have h2 := hr _ (List.getElem_mem hi)
    have := (ByteAt.sl (l := ls[i]) hy (by omega) c')
    rwa [h2] at this
theorem PartB.below {w w' : World} {g k j n : Nat} {ls : List (List B8)} (h : PartB w g k j n ls) (hb : Below w.heap.size w w') : PartB w' g k j n ls := by
  obtain ⟨vs, hv, hx, hr⟩ := h
  refine ⟨vs, hv, hx.below hb hx.lt, fun i hi => ?_⟩
  obtain ⟨b, off, c, e, hne, hy⟩ := hr i hi
  exact ⟨b, off, c, e, hne, hy.below hb⟩
/-- The next row is stored into the list. -/
theorem PartB.add {w : World} {g k j n b off c : Nat} {ls : List (List B8)} (h : PartB w g k j n ls) (hj : j < k) (hne : b ≠ g) (hy : ByteAt w b off (ls.getD j [])) : PartB (w.setCell ⟨g, j, none⟩ (.slice (some ⟨b, off, none⟩) n c)) g k (j + 1) n ls := by
  obtain ⟨vs, hv, hx, hr⟩ := h
  have hs : ∀ {b' off' : Nat} {l : List B8}, b' ≠ g → ByteAt w b' off' l → ByteAt (w.setCell ⟨g, j, none⟩ (.slice (some ⟨b, off, none⟩) n c)) b' off' l := fun hn hy => hy.of_block (by simp) (Below.heap_setCell w _ _ _ hn)
  refine ⟨_, by rw [List.length_set]; exact hv, hx.store j (.slice (some ⟨b, off, none⟩) n c) (by omega), fun i hi => ?_⟩
  by_cases e : i = j
  · subst e
    exact ⟨b, off, c, List.getElem?_set_self (by omega), hne, hs hne hy⟩
  · obtain ⟨b', off', c', e', hn, hy'⟩ := hr i (by omega)
    exact ⟨b', off', c', by rw [List.getElem?_set_ne (Ne.symm e)]; exact e', hn, hs hn hy'⟩
theorem PartB.room {w : World} {g k j n : Nat} {ls : List (List B8)} (h : PartB w g k j n ls) (i : Nat) (hi : i < k) : w.frozen? ⟨g, i, none⟩ = false ∧ ∃ old, w.cell? ⟨g, i, none⟩ = some old := by
  obtain ⟨vs, hv, hx, _⟩ := h
  exact ⟨hx.free i (by omega), _, hx.cell i (by omega)⟩
set_option maxRecDepth 100000 in
set_option maxHeartbeats 8000000 in
theorem invert_any {va : Value} {a : List (List B8)} {n : Nat} {w : World} {R : List (List B8)} (ha : RowsSl w va a) (hal : a.length = n) (har : ∀ r ∈ a, r.length = n) (hn : 1 ≤ n) (hn6 : n ≤ 6) (hR : invert a = some R) :
    Calls Try.prog 37 #[va] w fun e w' => ∃ g, e = .returned (.tuple #[.slice (some ⟨g, 0, none⟩) n n, .int .i64 0]) ∧ RowsSl w' (.slice (some ⟨g, 0, none⟩) n n) R ∧ Below w.heap.size w w' := by
  obtain ⟨ba, oa, ca, rfl, hba, hca⟩ := ha.at_ hal hn
  obtain ⟨G, hG, hRG⟩ : ∃ G, gauss n n 0 (wide a) = some G ∧ R = G.map fun r => r.drop n := by
    unfold invert at hR
    rw [hal] at hR
    cases hg : gauss n n 0 (wide a) with
    | none => rw [hg] at hR; simp at hR
    | some G => rw [hg] at hR; exact ⟨G, rfl, by simpa using hR.symm⟩
  have HCA := hid hca
  have HG := hid hG
  have HRG := hid hRG
  have HRN := hid (row_len hal har)
  have HWT := hid (wide_take a n · hal)
  have HWA := hid (show (wide a).take n = wide a by rw [List.take_of_length_le (by rw [wide_length]; omega)])
  have HWL := hid (show (wide a).length = n by rw [wide_length]; exact hal)
  have hn0 : ((n : Int) == 0) = false := beq_f (by omega)
  clear ha hal har hR hG hRG hca
  go_enter Try.func37, Try.ntmps37
  go_wp2_with (refine wpList_mk (by rfl) (.tmp 26) (.tmp 26) 26 22 (.slice none 0 0) 24 (by rfl) Try.underlying26 Try.info_row rfl n (by omega) (by omega) (by rfl) (by rfl) ?_)
  intro w1 hv1 hlt1 hb1
  have HM := hid (show Mat w1 w.heap.size w.heap.size n (2 * n) 0 [] ((wide a).take 0) from ⟨rfl, rfl, Nat.zero_le _, by simpa using hv1, fun i hi => by omega, fun i k hi => by omega, fun i hi => by omega, fun i hi => by omega, Nat.le_refl _, fun i hi => by omega⟩)
  have HB := hid hb1
  clear hv1 hlt1 hb1
  go_wp2_with fail
  go_loopw [30] (fun i wr => ∃ (j : Nat) (gs : List Nat), j ≤ n ∧ i = .int .i64 j ∧ Hid (Mat wr w.heap.size w.heap.size n (2 * n) j gs ((wide a).take j)) ∧ Hid (Below w.heap.size w wr)) (fun i _ => (n - intOf i).toNat)
  case atStart => exact ⟨0, [], Nat.zero_le _, rfl, HM, HB⟩
  case round =>
    clear HM HB
    obtain ⟨j, gs, hj, rfl, HM, HB⟩ := hrel
    by_cases hlt : j < n
    · obtain ⟨u, hu, hs⟩ := HCA.out j hlt
      have HRJ := hid (HRN.out j hlt)
      have HWJ := hid (HWT.out j hlt)
      generalize a.getD j [] = row at *
      obtain ⟨bi, oi, ci, rfl, hbi, _⟩ := hs.at_ HRJ.out hn
      have HS := hid hs
      have hu1 := (HB.out.cell (p := ⟨ba, oa + j, none⟩) hba).trans hu
      have hne := neq_self (n : Int)
      clear hu hs
      go_wp2_with (refine wpList_mk (by rfl) (.tmp 42) (.tmp 42) 22 5 (.int .u8 0) 1 (by rfl) Try.underlying22 Try.info_b8 rfl (2 * n) (by omega) (by omega) (by rfl) (by rfl) ?_)
      intro w2 hv2 hlt2 hb2
      rw [zero_cells] at hv2
      have hgl : w.heap.size < wr.heap.size := HM.out.ptr.lt
      have hnn : ∀ i, i < j → gs.getD i 0 ≠ wr.heap.size := fun i hi => by have := (HM.out.row i hi).lt; omega
      have HZ2 := hid (show ByteBox w2 wr.heap.size (List.replicate (2 * n) 0#8) from hv2)
      have HM2 := hid (HM.out.below hb2)
      have HB2 := hid (HB.out.trans (hb2.mono HB.out.size))
      have hgne : wr.heap.size ≠ w.heap.size := by omega
      have HNN := hid hnn
      clear hv2 hlt2 hb2 HM HB hnn hu1
      generalize wr.heap.size = b at *
      obtain ⟨hf0, old, hc0⟩ := HM2.out.room j hlt
      have HM3 := hid (HM2.out.add hlt HZ2.out (by simp) hgne HNN.out (by omega))
      have HB3 := hid (HB2.out.setCell (p := ⟨w.heap.size, j, none⟩) (Nat.le_refl _) (ptrv (2 * n) b))
      have hgj : (gs ++ [b]).getD j 0 = b := by rw [getD_append, HM2.out.gl, if_pos rfl]
      have HGJ := hid hgj
      clear hgj
      go_upto_region 11 with fail
      clear hf0 hc0
      generalize w2.setCell ⟨w.heap.size, j, none⟩ (ptrv (2 * n) b) = w3 at *
      have hc3 := HM3.out.cell j (by omega)
      rw [HGJ.out] at hc3
      have hx3 := HM3.out.row j (by omega)
      rw [HGJ.out, getD_append, HM2.out.ll, if_pos rfl] at hx3
      have HX3 := hid hx3
      have HS3 := hid (HS.out.below HB3.out)
      clear hx3 HM2 HZ2 HB2
      go_wp2_with (refine wpList_copy_row (by rfl) (.tmp 48) (.tmp 49) (by rfl) (by rfl) (by rfl) HS3.out HX3.out (by simp) HRJ.out (t := n) (by omega) ?_)
      intro w4 hx4 hf4
      replace hx4 : ByteBox w4 b (row.take n ++ (List.replicate (2 * n) 0#8).drop n) := by rw [List.drop_replicate]; exact hx4
      have HX4 := hid hx4
      have HF4 := hid hf4
      have hc4 : w4.cell? ⟨w.heap.size, j, none⟩ = some (ptrv (2 * n) b) := (World.cell?_of_block (w := w3) (a := ⟨w.heap.size, j, none⟩) (hf4.block _ HM3.out.ptr.lt (fun e => hgne e.symm))).trans hc3
      have hl4 : n + j < (row.take n ++ (List.replicate (2 * n) 0#8).drop n).length := by rw [List.length_append, List.length_take, HRJ.out, List.length_drop, List.length_replicate]; omega
      obtain ⟨old4, hg4⟩ : ∃ old, w4.cell? ⟨b, n + j, none⟩ = some old := ⟨_, ByteBox.get hx4 (n + j) hl4⟩
      have hr4 := ByteBox.room hx4 (n + j) hl4
      have hp4 := ByteBox.put hx4 (n + j) hl4 1#8
      rw [wide_row row n j HRJ.out hlt] at hp4
      have HP4 := hid hp4
      have HF5 := hid (show Fr (fun c => c = (gs ++ [b]).getD j 0) w3 (w4.setCell ⟨b, n + j, none⟩ (b8 1#8)) by rw [HGJ.out]; exact hf4.setCell ⟨b, n + j, none⟩ _ (.inl rfl))
      have HM5 := hid (show Mat (w4.setCell ⟨b, n + j, none⟩ (b8 1#8)) w.heap.size w.heap.size n (2 * n) (j + 1) (gs ++ [b]) ((wide a).take (j + 1)) by
        have := HM3.out.redo j (by omega) HF5.out (by rw [HGJ.out]; exact HP4.out) (by rw [List.length_append, HRJ.out, coefs_length]; omega)
        rw [HWJ.out]
        have hll : ((wide a).take j).length = j := by rw [List.length_take, HWL.out]; omega
        rw [List.set_append, if_neg (by omega), hll, Nat.sub_self] at this
        exact this)
      have HB5 := hid (show Below w.heap.size w (w4.setCell ⟨b, n + j, none⟩ (b8 1#8)) from (below_of_fr HB3.out hf4 (B := w.heap.size) (fun x e => by have : x = b := e; omega) HB3.out.size).setCell (p := ⟨b, n + j, none⟩) (by show w.heap.size ≤ b; omega) _)
      clear hx4 hf4 hp4 HX3 HS3 HX4 HF4 HP4 HF5 HM3 HB3 hl4
      go_wp2
      go_roundw
      case rel => exact ⟨j + 1, gs ++ [b], by omega, by go_num, HM5, HB5⟩
      case measure => (simp [intOf]; try omega)
    · obtain rfl : j = n := by omega
      rw [HWA.out] at HM
      generalize wide a = ls0 at *
      clear hlt hj HCA HRN HWT HWA HWL
      go_wp2_with fail
      go_loopw [8] (fun i wr => ∃ (k : Nat) (gs : List Nat) (ls : List (List B8)), k ≤ j ∧ i = .int .i64 k ∧ Hid (Mat wr w.heap.size w.heap.size j (2 * j) j gs ls) ∧ Hid (Below w.heap.size w wr) ∧ Hid (gauss j (j - k) k ls = some G)) (fun i _ => (j - intOf i).toNat)
      case atStart => exact ⟨0, gs, ls0, Nat.zero_le _, rfl, HM, HB, HG⟩
      case round =>
        clear HM HB HG
        obtain ⟨k, gs, ls, hk, rfl, HM, HB, HG⟩ := hrel
        by_cases hlk : k < j
        · have hst : gauss j (j - k) k ls = (gstep j k ls).bind (gauss j (j - (k + 1)) (k + 1)) := by
            rw [show j - k = (j - (k + 1)) + 1 by omega]; rfl
          rw [hst] at HG
          clear hst
          have hpl : ∃ ls', gstep j k ls = some ls' ∧ gauss j (j - (k + 1)) (k + 1) ls' = some G := by
            have := HG.out
            cases hg : gstep j k ls with
            | none => rw [hg] at this; cases this
            | some x => rw [hg] at this; exact ⟨x, rfl, this⟩
          obtain ⟨ls', hg1, hg2⟩ := hpl
          have hpv : pivot k j ls j k ≠ j := fun e => by unfold gstep at hg1; rw [if_pos e] at hg1; cases hg1
          have HPV := hid hpv
          have HG1 := hid hg1
          have HG2 := hid hg2
          clear hg1 hg2 hpv HG
          go_wp2_with fail
          go_loop [9] (fun i => ∃ t f : Nat, k ≤ t ∧ t ≤ j ∧ i = .int .i64 t ∧ Hid (pivot k j ls j k = pivot k j ls f t) ∧ Hid (j - t ≤ f)) (fun i => (j - intOf i).toNat)
          case atStart => exact ⟨k, j, Nat.le_refl _, by omega, rfl, rfl, hid (by omega)⟩
          case round =>
            obtain ⟨t, f, hkt, htj, rfl, HT, HF⟩ := hrel
            by_cases hlt : t < j
            · obtain ⟨hx, _⟩ := HM.out.get t k hlt (by omega)
              have hp := HM.out.cell t hlt
              generalize gs.getD t 0 = bt at hx hp
              by_cases hz : (ls.getD t []).getD k 0#8 = 0#8
              · rw [hz] at hx
                have HZ := hid hz
                clear hz
                go_wp2
                go_round
                case rel => exact ⟨t + 1, f - 1, by omega, by omega, by go_num, hid (by
                  rw [HT.out]
                  have := HF.out
                  obtain ⟨f', rfl⟩ : ∃ f', f = f' + 1 := ⟨f - 1, by omega⟩
                  rw [pivot, if_pos ⟨hlt, HZ.out⟩, Nat.add_sub_cancel]), hid (by have := HF.out; omega)⟩
                case measure => (simp [intOf]; try omega)
              · have hb0 := b8_zero _ hz
                have HPT := hid (show pivot k j ls j k = t by
                  rw [HT.out]
                  cases f with
                  | zero => rfl
                  | succ f => rw [pivot, if_neg (fun e => hz e.2)])
                clear hz
                generalize (ls.getD t []).getD k 0#8 = x at *
                go_upto_region 22 with fail
                clear hx hp hb0
                go_cut [] (fun wy => ∃ gs' : List Nat, Mat wy w.heap.size w.heap.size j (2 * j) j gs' (swap ls t k) ∧ Below w.heap.size w wy)
                case first =>
                  have hsw := HM.out.swap t k hlt hlk
                  have hpt := HM.out.cell t hlt
                  have hpk := HM.out.cell k hlk
                  have hft := (HM.out.room t hlt).1
                  have hfk := (HM.out.room k hlk).1
                  have hbs := HB.out.size
                  generalize gs.getD t 0 = bt at hsw hpt
                  generalize gs.getD k 0 = bk at hsw hpk
                  have HSW := hid hsw
                  clear hsw
                  by_cases htk : t = k
                  · subst htk
                    obtain rfl : bt = bk := by
                      rw [hpt] at hpk
                      injection hpk with e
                      injection e with e
                      injection e with e
                      injection e
                    clear hpk hfk
                    go_region
                    all_goals
                      go_wp2_with fail
                      go_meet
                      exact ⟨_, HSW.out.drewN 1, ((HB.out.setCell (p := ⟨w.heap.size, t, none⟩) (Nat.le_refl _) _).setCell (p := ⟨w.heap.size, t, none⟩) (Nat.le_refl _) _).drew⟩
                  · go_region
                    all_goals
                      go_wp2_with fail
                      go_meet
                      exact ⟨_, HSW.out.drewN 1, ((HB.out.setCell (p := ⟨w.heap.size, t, none⟩) (Nat.le_refl _) _).setCell (p := ⟨w.heap.size, k, none⟩) (Nat.le_refl _) _).drew⟩
                case rest =>
                  clear HM HB
                  obtain ⟨gs2, hm, hb⟩ := hcut
                  have HE := hid (show elims k ((swap ls t k).set k (scale ((swap ls t k).getD k []) (ginv (((swap ls t k).getD k []).getD k 0#8)))) = ls' by
                    have := HG1.out
                    unfold gstep at this
                    rw [HPT.out, if_neg (by omega)] at this
                    injection this)
                  generalize swap ls t k = ls1 at *
                  have hl1 := hm.ll
                  have hwk := hm.wide k hlk
                  have hget := (hm.get k k hlk (by omega)).1
                  have hcel := hm.cell k hlk
                  have hsg := set_getD ls1 k [] (by omega)
                  generalize hrk : ls1.getD k [] = rk at *
                  generalize gs2.getD k 0 = bk at hget hcel
                  obtain ⟨x, hx⟩ : ∃ x, rk.getD k 0#8 = x := ⟨_, rfl⟩
                  rw [hx] at hget HE
                  have HM := hid hm
                  have HB := hid hb
                  have HL1 := hid hl1
                  have HWK := hid hwk
                  have HSG := hid hsg
                  have HRK := hid hrk
                  clear hm hb hl1 hwk hsg hrk hx HG1 HPT HPV
                  go_wp2_with fail
                  refine (inv_any x _).mono ?_
                  rintro e w' ⟨rfl, rfl⟩
                  obtain ⟨f1, hf1⟩ : ∃ f1, ginv x = f1 := ⟨_, rfl⟩
                  rw [hf1] at HE ⊢
                  generalize (if x = 0#8 then (3 : Int) else 0) = er
                  clear hf1 hget
                  go_wp2_with fail
                  clear hcel
                  go_loopw [114] (fun i wr => ∃ q : Nat, q ≤ 2 * j ∧ i = .int .i64 q ∧ Hid (Mat wr w.heap.size w.heap.size j (2 * j) j gs2 (ls1.set k (scaleTo f1 rk q))) ∧ Hid (Below w.heap.size w wr)) (fun i _ => (2 * j - intOf i).toNat)
                  case atStart => exact ⟨0, Nat.zero_le _, rfl, hid (by rw [scaleTo_zero, HSG.out]; exact HM.out), HB⟩
                  case round =>
                    clear HM HB
                    obtain ⟨q, hq, rfl, HM, HB⟩ := hrel
                    by_cases hlq : q < 2 * j
                    · have hget := HM.out.get k q hlk hlq
                      have hcel := HM.out.cell k hlk
                      rw [getD_set ls1 k k _ _ (by rw [HL1.out]; exact hlk), if_pos rfl, scaleTo_at f1 rk q (by rw [HWK.out]; exact hlq)] at hget
                      have HPS := hid (show ∀ nq, Mat ((wr.drewN nq).setCell ⟨gs2.getD k 0, q, none⟩ (b8 (gmul (rk.getD q 0#8) f1))) w.heap.size w.heap.size j (2 * j) j gs2 (ls1.set k (scaleTo f1 rk (q + 1))) from fun nq => by
                        have h := (HM.out.drewN nq).put k q hlk hlq (gmul (rk.getD q 0#8) f1)
                        rwa [getD_set ls1 k k _ _ (by rw [HL1.out]; exact hlk), if_pos rfl, scaleTo_set f1 rk q (by rw [HWK.out]; exact hlq), List.set_set] at h)
                      have hbk := HM.out.rB k hlk
                      generalize gs2.getD k 0 = bk at hget hcel HPS hbk
                      generalize rk.getD q 0#8 = y at hget HPS
                      obtain ⟨hgt, hfr⟩ := hget
                      have hgq : ∀ nq, (wr.drewN nq).cell? ⟨bk, q, none⟩ = some (b8 y) := fun _ => hgt
                      have hcq : ∀ nq, (wr.drewN nq).cell? ⟨w.heap.size, k, none⟩ = some (ptrv (2 * j) bk) := fun _ => hcel
                      have hfq : ∀ nq, (wr.drewN nq).frozen? ⟨bk, q, none⟩ = false := fun _ => hfr
                      go_upto_region 27 with fail
                      refine wp_region_quiet_tail 15 (fun w' => ∃ nq, w' = wr.drewN nq) ⟨1, rfl⟩ (by kernel_rfl) (by kernel_rfl) ?_
                      simp only [List.take_succ_cons, List.take_zero, List.drop_succ_cons, List.drop_zero]
                      repeat (go_big_quiet_step ((go_at_call 38; exact quiet_left (mul_any _ _ _))))
                      refine wpQuiet_nil ?_
                      rintro _ ⟨nq, rfl⟩
                      have HP1 := hid (HPS.out nq)
                      have HB1 := hid ((below_drewN HB.out nq).setCell (p := ⟨bk, q, none⟩) hbk (b8 (gmul y f1)))
                      clear HPS HM HB hgt hfr hcel hbk
                      go_wp2
                      go_roundw
                      case rel => exact ⟨q + 1, by omega, by go_num, HP1, HB1⟩
                      case measure => (simp [intOf]; try omega)
                    · obtain rfl : q = 2 * j := by omega
                      have HM2 := hid (show Mat wr w.heap.size w.heap.size j (2 * j) j gs2 (ls1.set k (scale rk f1)) by rw [← scaleTo_all f1 rk (2 * j) HWK.out]; exact HM.out)
                      have HL2 := hid (show (ls1.set k (scale rk f1)).length = j by rw [List.length_set]; exact HL1.out)
                      generalize ls1.set k (scale rk f1) = ls2 at *
                      have HWD := hid HM2.out.wide
                      have HEA := hid (show elimsTo k (ls2.getD k []) ls2 j = ls' by rw [elimsTo_all k ls2 j HL2.out]; exact HE.out)
                      have HE0 := hid (elimsTo_zero k (ls2.getD k []) ls2)
                      have HSELF := hid (show ∀ i, i < j → (elimsTo k (ls2.getD k []) ls2 i).getD i [] = ls2.getD i [] ∧ (elimsTo k (ls2.getD k []) ls2 i).getD k [] = ls2.getD k [] from fun i hi => by
                        rw [elimsTo_get _ _ _ _ _ (by rw [HL2.out]; exact hi), elimsTo_get _ _ _ _ _ (by rw [HL2.out]; exact hlk), if_neg (by omega), elim_self]
                        exact ⟨rfl, by split <;> rfl⟩)
                      have HWRK := hid (HM2.out.wide k hlk)
                      have HSET := hid (fun i (hi : i < j) => elimsTo_set k (ls2.getD k []) ls2 i (by rw [HL2.out]; exact hi))
                      clear HM HE hlq HL1 HWK HSG HRK hq
                      generalize ls2.getD k [] = rk2 at *
                      go_wp2_with fail
                      go_loopw [135] (fun i wr => ∃ q : Nat, q ≤ j ∧ i = .int .i64 q ∧ Hid (Mat wr w.heap.size w.heap.size j (2 * j) j gs2 (elimsTo k rk2 ls2 q)) ∧ Hid (Below w.heap.size w wr)) (fun i _ => (j - intOf i).toNat)
                      case atStart => exact ⟨0, Nat.zero_le _, rfl, hid (by rw [HE0.out]; exact HM2.out), HB⟩
                      case round =>
                        clear HM2 HB HE0
                        obtain ⟨i, hi, rfl, HM, HB⟩ := hrel
                        by_cases hli : i < j
                        · have hs1 := HSELF.out i hli
                          have hst := HSET.out i hli
                          have hwr := HWD.out i hli
                          generalize hr : ls2.getD i [] = r at *
                          obtain ⟨z, hz⟩ : ∃ z, r.getD k 0#8 = z := ⟨_, rfl⟩
                          have hgi := (HM.out.get i k hli (by omega)).1
                          have hci := HM.out.cell i hli
                          rw [hs1.1, hz] at hgi
                          have hsg := set_getD (elimsTo k rk2 ls2 i) i [] (by rw [HM.out.ll]; exact hli)
                          rw [hs1.1] at hsg
                          have HS1 := hid hs1
                          have HST := hid hst
                          have HWR := hid hwr
                          have HZ := hid hz
                          have HSG := hid hsg
                          clear hs1 hst hwr hr hz hsg
                          generalize hbi0 : gs2.getD i 0 = bi at hgi hci
                          have HBI := hid hbi0
                          clear hbi0
                          by_cases hik : i = k
                          · have hbb := bne_f (show (i : Int) = (k : Int) by omega)
                            have HMN := hid (show Mat wr w.heap.size w.heap.size j (2 * j) j gs2 (elimsTo k rk2 ls2 (i + 1)) by
                              rw [← HST.out, show elim k rk2 i r = r by rw [hik]; exact elim_self k rk2 r, HSG.out]; exact HM.out)
                            clear HM hik
                            go_wp2
                            go_roundw
                            case rel => exact ⟨i + 1, by omega, by go_num, HMN, HB⟩
                            case measure => (simp [intOf]; try omega)
                          · have hbb := bne_t (show (i : Int) ≠ (k : Int) by omega)
                            by_cases hz0 : z = 0#8
                            · have HMN := hid (show Mat wr w.heap.size w.heap.size j (2 * j) j gs2 (elimsTo k rk2 ls2 (i + 1)) by
                                rw [← HST.out, show elim k rk2 i r = r by unfold elim; rw [HZ.out, if_neg (fun e => e.2 hz0)], HSG.out]; exact HM.out)
                              subst hz0
                              clear HM
                              go_wp2
                              go_roundw
                              case rel => exact ⟨i + 1, by omega, by go_num, HMN, HB⟩
                              case measure => (simp [intOf]; try omega)
                            · have hbz : ((z.toNat : Int) != 0) = true := by
                                have := b8_zero z hz0
                                simp only [bne, this]; rfl
                              have HEL := hid (show addRow z rk2 r = elim k rk2 i r by unfold elim; rw [HZ.out, if_pos ⟨hik, hz0⟩])
                              have HIK := hid hik
                              clear hz0 hik
                              go_wp2_with fail
                              go_loopw [157] (fun q wr => ∃ p : Nat, p ≤ 2 * j ∧ q = .int .i64 p ∧ Hid (Mat wr w.heap.size w.heap.size j (2 * j) j gs2 ((elimsTo k rk2 ls2 i).set i (addTo z rk2 r p))) ∧ Hid (Below w.heap.size w wr)) (fun q _ => (2 * j - intOf q).toNat)
                              case atStart => exact ⟨0, Nat.zero_le _, rfl, hid (by rw [addTo_zero, HSG.out]; exact HM.out), HB⟩
                              case round =>
                                clear HM HB hgi hci hbb hbz
                                obtain ⟨p, hp, rfl, HM, HB⟩ := hrel
                                by_cases hlp : p < 2 * j
                                · have hge := HM.out.get i p hli hlp
                                  have hgk := (HM.out.get k p hlk hlp).1
                                  have hci := HM.out.cell i hli
                                  have hck := HM.out.cell k hlk
                                  have hll : (elimsTo k rk2 ls2 i).length = j := by have := HM.out.ll; rwa [List.length_set] at this
                                  rw [getD_set _ i i _ _ (by rw [hll]; exact hli), if_pos rfl, addTo_at z rk2 r (2 * j) p HWRK.out HWR.out hlp] at hge
                                  rw [getD_set _ i k _ _ (by rw [hll]; exact hli), if_neg (fun e => HIK.out e.symm), HS1.out.2] at hgk
                                  have HPS := hid (show ∀ nq, Mat ((wr.drewN nq).setCell ⟨gs2.getD i 0, p, none⟩ (b8 (r.getD p 0#8 ^^^ gmul z (rk2.getD p 0#8)))) w.heap.size w.heap.size j (2 * j) j gs2 ((elimsTo k rk2 ls2 i).set i (addTo z rk2 r (p + 1))) from fun nq => by
                                    have h := (HM.out.drewN nq).put i p hli hlp (r.getD p 0#8 ^^^ gmul z (rk2.getD p 0#8))
                                    rwa [getD_set _ i i _ _ (by rw [hll]; exact hli), if_pos rfl, addTo_set z rk2 r (2 * j) p HWRK.out HWR.out hlp, List.set_set] at h)
                                  have hbi := HM.out.rB i hli
                                  clear hll
                                  rw [HBI.out] at hge hci HPS hbi
                                  generalize gs2.getD k 0 = bk at hgk hck
                                  generalize rk2.getD p 0#8 = y at hgk HPS
                                  generalize r.getD p 0#8 = x at hge HPS
                                  obtain ⟨hgt, hfr⟩ := hge
                                  have hgq : ∀ nq, (wr.drewN nq).cell? ⟨bi, p, none⟩ = some (b8 x) := fun _ => hgt
                                  have hkq : ∀ nq, (wr.drewN nq).cell? ⟨bk, p, none⟩ = some (b8 y) := fun _ => hgk
                                  have hcq : ∀ nq, (wr.drewN nq).cell? ⟨w.heap.size, k, none⟩ = some (ptrv (2 * j) bk) := fun _ => hck
                                  have hiq : ∀ nq, (wr.drewN nq).cell? ⟨w.heap.size, i, none⟩ = some (ptrv (2 * j) bi) := fun _ => hci
                                  have hfq : ∀ nq, (wr.drewN nq).frozen? ⟨bi, p, none⟩ = false := fun _ => hfr
                                  go_upto_region 37 with fail
                                  refine wp_region_quiet_tail 18 (fun w' => ∃ nq, w' = wr.drewN nq) ⟨1, rfl⟩ (by kernel_rfl) (by kernel_rfl) ?_
                                  simp only [List.take_succ_cons, List.take_zero, List.drop_succ_cons, List.drop_zero]
                                  repeat (go_big_quiet_step ((go_at_call 38; exact quiet_left (mul_any _ _ _))))
                                  refine wpQuiet_nil ?_
                                  rintro _ ⟨nq, rfl⟩
                                  rw [xor_b8]
                                  have HP1 := hid (HPS.out nq)
                                  have HB1 := hid ((below_drewN HB.out nq).setCell (p := ⟨bi, p, none⟩) hbi (b8 (x ^^^ gmul z y)))
                                  clear HPS HM HB hgt hfr hgk hck hci hbi
                                  go_wp2
                                  go_roundw
                                  case rel => exact ⟨p + 1, by omega, by go_num, HP1, HB1⟩
                                  case measure => (simp [intOf]; try omega)
                                · obtain rfl : p = 2 * j := by omega
                                  have HMN := hid (show Mat wr w.heap.size w.heap.size j (2 * j) j gs2 (elimsTo k rk2 ls2 (i + 1)) by
                                    rw [← HST.out, ← HEL.out, ← addTo_all z rk2 r (2 * j) HWRK.out HWR.out]; exact HM.out)
                                  clear HM
                                  go_wp2
                                  go_roundw
                                  case rel => exact ⟨i + 1, by omega, by go_num, HMN, HB⟩
                                  case measure => (simp [intOf]; try omega)
                        · obtain rfl : i = j := by omega
                          rw [HEA.out] at HM
                          clear hi hli
                          go_wp2
                          go_roundw
                          case rel => exact ⟨k + 1, gs2, ls', by omega, by go_num, HM, HB, HG2⟩
                          case measure => (simp [intOf]; try omega)
            · exfalso
              obtain rfl : t = j := by omega
              refine HPV.out (HT.out.trans ?_)
              cases f with
              | zero => rfl
              | succ f => rw [pivot, if_neg (fun e => by omega)]
        · obtain rfl : k = j := by omega
          have hg0 : ls = G := by
            have := HG.out
            rw [Nat.sub_self] at this
            injection this
          subst hg0
          clear HG hlk hk
          go_wp2_with (refine wpList_mk (by rfl) (.tmp 180) (.tmp 180) 26 22 (.slice none 0 0) 24 (by rfl) Try.underlying26 Try.info_row rfl k (by omega) (by omega) (by rfl) (by rfl) ?_)
          intro w2 hv2 hlt2 hb2
          have HM2 := hid (HM.out.below hb2)
          have hw2 := HB.out.trans (hb2.mono HB.out.size)
          have HP := hid (show PartB w2 wr.heap.size k 0 k (ls.map fun r => r.drop k) from ⟨_, by simp, hv2, fun i hi => by omega⟩)
          have hg2 : w.heap.size < wr.heap.size := HM.out.ptr.lt
          have HW2 := hid hw2
          have hgl := hlt2
          have HLG := hid HM.out.ll
          have HGG := hid (show ∀ i, i < k → gs.getD i 0 < wr.heap.size from fun i hi => (HM.out.row i hi).lt)
          clear hv2 hlt2 hb2 hw2 HM HB
          generalize wr.heap.size = g2 at *
          obtain ⟨i0, hi0, hz0, hz1, hz2⟩ := info_parts Try.info_b8
          go_wp2_with fail
          go_loopw [184] (fun i wr => ∃ q : Nat, q ≤ k ∧ i = .int .i64 q ∧ Hid (PartB wr g2 k q k (ls.map fun r => r.drop k)) ∧ Hid (Mat wr w.heap.size w.heap.size k (2 * k) k gs ls) ∧ Hid (g2 < wr.heap.size) ∧ Hid (Below w.heap.size w wr)) (fun i _ => (k - intOf i).toNat)
          case atStart => exact ⟨0, Nat.zero_le _, rfl, HP, HM2, hgl, HW2⟩
          case round =>
            clear HP HM2 hgl HW2
            obtain ⟨q, hq, rfl, HP, HM, HGL, HB⟩ := hrel
            by_cases hlq : q < k
            · have hcq := HM.out.cell q hlq
              have hrow := HM.out.row q hlq
              have hwid := HM.out.wide q hlq
              have hgr : (ls.map fun r => r.drop k).getD q [] = (ls.getD q []).drop k := by
                simp only [List.getD_eq_getElem?_getD, List.getElem?_map]
                rw [List.getElem?_eq_getElem (by rw [HLG.out]; exact hlq)]
                rfl
              generalize gs.getD q 0 = bq at hcq hrow
              generalize ls.getD q [] = row at hrow hwid hgr
              have HSRC := hid (show Src wr 1 (.slice (some ⟨bq, k, none⟩) (2 * k - k) (2 * k - k)) (2 * k - k) (bcells (row.drop k)) from by
                refine ⟨by rw [bcells_length, List.length_drop, hwid, Nat.mul_one], .inr ⟨_, _, rfl, fun p u hu => ?_⟩⟩
                have hp : p < (row.drop k).length := by have := (List.getElem?_eq_some_iff.1 hu).1; rwa [bcells_length] at this
                rw [bcells_get _ p hp] at hu
                rw [List.length_drop] at hp
                rw [add_plain, ByteBox.get hrow (k + p) (by omega), ← hu, List.getElem_drop])
              have HGR := hid hgr
              have HWD := hid hwid
              clear hrow hwid hgr
              go_wp2_with (at_builtin; refine wpList_append_sl (by rfl) (.const (.slice none 0 0)) (.tmp 194) 22 (by rfl) 5 i0 _ 1 1 Try.underlying22 hi0 hz0 hz1 hz2 rfl (by decide) NoOwn _ (.slice (some ⟨bq, k, none⟩) (2 * k - k) (2 * k - k)) 0 (2 * k - k) [] (bcells (row.drop k)) (by rfl) (by rfl) (OwnSl.nil _ _ _) HSRC.out (by intro u hu; obtain ⟨y, _, rfl⟩ := List.mem_map.1 hu; rfl) (by unfold maxLen; omega) (by omega) ?_)
              intro v3 w3 hown3 hf3
              have hkk : 2 * k - k = k := by omega
              rw [hkk] at hown3
              obtain ⟨g3, off3, cap3, rfl, hg3, hlt3, _, _, hc3, _⟩ := hown3.some_ (by omega)
              have hb3 := hf3.below (B := wr.heap.size) (fun _ e => e.elim) (Nat.le_refl _)
              have hne3 : g3 ≠ g2 := by
                have := HGL.out
                rcases hg3 with e | e
                · exact e.elim
                · omega
              have HA3 := hid (show ByteAt w3 g3 off3 ((ls.map fun r => r.drop k).getD q []) by
                rw [HGR.out]
                exact ⟨hlt3, fun p hp => hc3 p _ (bcells_get _ p hp)⟩)
              have HP3 := hid (HP.out.below hb3)
              obtain ⟨hfr, old, hco⟩ := HP3.out.room q hlq
              have HP4 := hid (HP3.out.add (c := cap3) hlq hne3 HA3.out)
              have HM4 := hid (show Mat (w3.setCell ⟨g2, q, none⟩ (.slice (some ⟨g3, off3, none⟩) k cap3)) w.heap.size w.heap.size k (2 * k) k gs ls from (HM.out.below hb3).of_block (by simp) (fun b hlt hb => Below.heap_setCell w3 _ _ b (by
                have h1 := HM.out.ptr.lt
                rcases hb with e | ⟨i, hi, e⟩
                · rw [e]; exact Nat.ne_of_lt hg2
                · rw [e]
                  intro e2
                  have := HGG.out i hi
                  exact Nat.lt_irrefl _ (e2 ▸ this))))
              have HB4 := hid ((HB.out.trans (hb3.mono HB.out.size)).setCell (p := ⟨g2, q, none⟩) (Nat.le_of_lt hg2) (.slice (some ⟨g3, off3, none⟩) k cap3))
              have HGL4 := hid (show g2 < (w3.setCell ⟨g2, q, none⟩ (.slice (some ⟨g3, off3, none⟩) k cap3)).heap.size by simp; have := HGL.out; have := hb3.size; omega)
              clear hown3 hf3 hb3 hc3 hlt3 hg3 HP HM HB HGL HP3 HA3 HSRC
              rw [hkk]
              go_wp2
              go_roundw
              case rel => exact ⟨q + 1, by omega, by go_num, HP4, HM4, HGL4, HB4⟩
              case measure => (simp [intOf]; try omega)
            · obtain rfl : q = k := by omega
              have hr := HP.out.rows (by rw [List.length_map]; exact HLG.out) (fun r hr => by
                obtain ⟨y, hy, rfl⟩ := List.mem_map.1 hr
                obtain ⟨i, hi, rfl⟩ := List.getElem_of_mem hy
                have := HM.out.wide i (by rw [← HLG.out]; exact hi)
                rw [List.getD_eq_getElem?_getD, List.getElem?_eq_getElem hi] at this
                simp only [Option.getD_some] at this
                rw [List.length_drop, this]; omega) (by unfold maxLen; omega) (by unfold maxLen; omega) q
              rw [← HRG.out] at hr
              have HR := hid hr
              clear hr
              go_wp2
              go_ret2
              exact ⟨g2, rfl, HR.out, HB.out⟩
end Go.Proofs.Ytgeopgibjmhehaa
