/- Fragments; Decode. -/
import Derived.Test.YtgeopgibjmhehaaV8
namespace Go.Proofs.Ytgeopgibjmhehaa
open Go Go.RowKit Go.Sort
attribute [local go_sem ↓] Go.wp_at_zero Go.wp_at_succ

/-- The string of a row. -/
def bstr (l : List B8) : ByteArray := ⟨(l.map UInt8.ofBitVec).toArray⟩
theorem bstr_inj {a b : List B8} (h : bstr a = bstr b) : a = b := by
  unfold bstr at h
  injection h with h
  have h := congrArg Array.toList h
  simp only [List.toList_toArray] at h
  refine List.map_inj_right (f := UInt8.ofBitVec) ?_ |>.1 h
  intro x y e
  injection e
theorem ByteAt.str {w : World} {b off : Nat} {l : List B8} (h : ByteAt w b off l) {n : Nat} (hn : l.length = n) (cap : Nat) : (convert 22 9 (.slice (some ⟨b, off, none⟩) n cap)).run Try.prog w = .ok (.string (bstr l)) w := by
  have hl : (l.map UInt8.ofBitVec).length = n := by simpa using hn
  have := run_convert_bytes_back (P := Try.prog) w 22 9 5 ⟨b, off, none⟩ cap (l.map UInt8.ofBitVec) Try.underlying22 Try.underlying5 Try.underlying9 (by
    intro j hj
    rw [List.length_map] at hj
    rw [add_plain, h.cell j hj]
    simp only [List.getElem_map]
    rfl)
  rw [hl] at this
  exact this
/-- Fragments: numbers and the slices of their rows. -/
def FragsAt (w : World) (v : Value) (idx : List Nat) (us : List Value) : Prop :=
  us.length = idx.length ∧ idx.length ≤ maxLen ∧ ∃ A c, v = .slice A idx.length c ∧ (0 < idx.length → ∃ b off, A = some ⟨b, off, none⟩ ∧ b < w.heap.size ∧ ∀ j (h : j < idx.length), w.cell? ⟨b, off + j * 2, none⟩ = some (.int .i64 (idx[j] : Int)) ∧ ∃ u, us[j]? = some u ∧ w.cell? ⟨b, off + j * 2 + 1, none⟩ = some u)
theorem FragsAt.below {w w' : World} {v : Value} {idx : List Nat} {us : List Value} (h : FragsAt w v idx us) (hb : Below w.heap.size w w') : FragsAt w' v idx us := by
  obtain ⟨h1, h2, A, c, e, h3⟩ := h
  refine ⟨h1, h2, A, c, e, fun h0 => ?_⟩
  obtain ⟨b, off, e2, hlt, hc⟩ := h3 h0
  refine ⟨b, off, e2, Nat.lt_of_lt_of_le hlt hb.size, fun j hj => ?_⟩
  obtain ⟨c1, u, hu, c2⟩ := hc j hj
  exact ⟨(hb.cell (p := ⟨b, off + j * 2, none⟩) hlt).trans c1, u, hu, (hb.cell (p := ⟨b, off + j * 2 + 1, none⟩) hlt).trans c2⟩
/-- Which numbers have been seen. -/
def seenL (n : Nat) (l : List Nat) : List Value := (List.range n).map fun x => .bool (decide (x ∈ l))
theorem seenL_length (n : Nat) (l : List Nat) : (seenL n l).length = n := by simp [seenL]
theorem seenL_get (n : Nat) (l : List Nat) (x : Nat) (h : x < n) : (seenL n l)[x]'(by rw [seenL_length]; exact h) = .bool (decide (x ∈ l)) := by simp [seenL]
theorem seenL_nil (n : Nat) : seenL n [] = List.replicate n (.bool false) := by
  refine List.ext_getElem (by simp [seenL]) fun i h1 h2 => ?_
  simp [seenL]
theorem seenL_set (n : Nat) (l : List Nat) (x : Nat) (h : x < n) : (seenL n l).set x (.bool true) = seenL n (l ++ [x]) := by
  refine List.ext_getElem (by simp [seenL]) fun i h1 h2 => ?_
  have hi : i < n := by simpa [seenL] using h2
  rw [List.getElem_set]
  by_cases e : x = i
  · subst e; rw [if_pos rfl, seenL_get n _ x hi]; simp
  · rw [if_neg e, seenL_get n _ i hi, seenL_get n _ i hi]
    simp [Ne.symm e]
theorem idx_fresh {idx : List Nat} (h : idx.Nodup) (j : Nat) (hj : j < idx.length) : idx[j] ∉ idx.take j := by
  intro hm
  obtain ⟨i, hi, e⟩ := List.getElem_of_mem hm
  rw [List.length_take] at hi
  rw [List.getElem_take] at e
  have := (List.nodup_iff_pairwise_ne.1 h)
  rw [List.pairwise_iff_getElem] at this
  exact this i j (by omega) hj (by omega) e
theorem range_nodup (n : Nat) : (List.range n).Nodup := by
  rw [List.nodup_iff_pairwise_ne, List.pairwise_iff_getElem]
  intro i j hi hj hij e
  simp at e
  omega
end Go.Proofs.Ytgeopgibjmhehaa

/- Decode: the whole code word out of some rows. -/
namespace Go.Proofs.Ytgeopgibjmhehaa
open Go Go.RowKit Go.Sort
attribute [local go_sem ↓] Go.wp_at_zero Go.wp_at_succ

theorem Try.info_bool : (Try.prog.info? 4).map (fun i => (i.zero, i.size, i.bytes)) = some (some (.bool false), 1, 1) := by kernel_rfl
theorem ByteSl.at1 {w : World} {b off n c : Nat} {l : List B8} (h : ByteSl w (.slice (some ⟨b, off, none⟩) n c) l) (hl : l.length = n) (hn : 0 < n) : ByteAt w b off l := by
  subst hl
  obtain ⟨b', o', c', e, hlt, hc⟩ := h.some_ hn
  injection e with e1 _ _
  injection e1 with e1
  injection e1 with e1 e2
  subst e1
  subst e2
  exact ⟨hlt, hc⟩
theorem RowsSl.box {w : World} {g off n c : Nat} {ls : List (List B8)} (h : RowsSl w (.slice (some ⟨g, off, none⟩) n c) ls) (hl : ls.length = n) (hn : 0 < n) : g < w.heap.size ∧ ∀ k, k < n → ∃ u, w.cell? ⟨g, off + k, none⟩ = some u ∧ ByteSl w u (ls.getD k []) := by
  obtain ⟨b, o, c', e, hlt, hc⟩ := h.at_ hl hn
  injection e with e1 _ _
  injection e1 with e1
  injection e1 with e1 e2
  subst e1
  subst e2
  exact ⟨hlt, hc⟩
theorem RowsSl.take {w : World} {A : Option Addr} {n c k : Nat} {ls : List (List B8)} (h : RowsSl w (.slice A n c) ls) (hl : ls.length = n) (hk : k ≤ n) : RowsSl w (.slice A k c) (ls.take k) := by
  obtain ⟨vs, ⟨h1, h2, A', c', e, h3⟩, hr⟩ := h
  injection e with e1 e2 e3
  subst e1; subst e3
  have hlk : (ls.take k).length = k := by rw [List.length_take]; omega
  refine ⟨vs.take k, ⟨by rw [hlk, List.length_take]; omega, by omega, A, c, by rw [hlk], fun h0 => ?_⟩, fun i hi => ?_⟩
  · rw [hlk] at h0
    obtain ⟨b, off, e, hlt, hc⟩ := h3 (by omega)
    refine ⟨b, off, e, hlt, fun j u hu => hc j u ?_⟩
    rw [List.getElem?_take] at hu
    split at hu
    · exact hu
    · cases hu
  · rw [hlk] at hi
    obtain ⟨u, hu, hb⟩ := hr i (by omega)
    refine ⟨u, by rw [List.getElem?_take, if_pos hi]; exact hu, ?_⟩
    rw [List.getElem_take]
    exact hb
/-- What whole has of its fragments after j of them. -/
structure Half (w0 w : World) (s N j : Nat) (idx : List Nat) (us : List Value) (o : Own) (v : Value) : Prop where
  own : OwnSl w o 1 v j (us.take j)
  above : Above w0.heap.size o
  under : Under w o
  seen : ValsAt w s (seenL N (idx.take j))
  ns : ¬ o s
  s0 : w0.heap.size ≤ s
  below : Below w0.heap.size w0 w
theorem Half.then {w0 w w' : World} {s N j : Nat} {idx : List Nat} {us : List Value} {o : Own} {v : Value} (h : Half w0 w s N j idx us o v) (hb : Below w.heap.size w w') : Half w0 w' s N j idx us o v :=
  ⟨h.own.below hb, h.above, h.under.mv hb.size, h.seen.below hb h.seen.lt, h.ns, h.s0, h.below.trans (hb.mono h.below.size)⟩
set_option maxRecDepth 100000 in
set_option maxHeartbeats 8000000 in
theorem whole_any {vf : Value} {idx : List Nat} {us : List Value} {data : List (List B8)} {k m : Nat} {w : World} (hf : FragsAt w vf idx us) (hus : ∀ j (h : j < idx.length), ∃ u, us[j]? = some u ∧ ByteSl w u (combine (coefs k idx[j]) data))
    (hs : idx.Sublist (List.range (k + m))) (hki : k ≤ idx.length) (hdk : data.length = k) (hdn : ∀ r ∈ data, r.length = 16) (hk1 : 1 ≤ k) (hk : k ≤ 4) (hm : m ≤ 4) :
    Calls Try.prog 32 #[.int .i64 k, .int .i64 m, vf] w fun e w' => ∃ v, e = .returned (.tuple #[v, .int .i64 0]) ∧ (∃ b off c, v = .slice (some ⟨b, off, none⟩) (k + m) c ∧ k + m ≤ c) ∧ RowsSl w' v (word k m data) ∧ Below w.heap.size w w' := by
  have hlen : idx.length ≤ k + m := by have := hs.length_le; simpa using this
  have hlt : ∀ j (h : j < idx.length), idx[j] < k + m := fun j h => List.mem_range.1 (hs.subset (List.getElem_mem h))
  have hnd : ∀ j (h : j < idx.length), idx[j] ∉ idx.take j := fun j h => idx_fresh ((range_nodup _).sublist hs) j h
  have hne : data ≠ [] := by rintro rfl; simp at hdk; omega
  obtain ⟨d, hd⟩ : ∃ d, idx.length = d := ⟨_, rfl⟩
  obtain ⟨_, _, A, cf, rfl, hcf⟩ := hf
  obtain ⟨bf, of, rfl, hbf, hcell⟩ := hcf (by omega)
  rw [hd] at hlen hki ⊢
  have HD := hid hd
  have HLT := hid hlt
  have HND := hid hnd
  have HCE := hid hcell
  have HUS := hid hus
  have HDK := hid hdk
  have HDN := hid hdn
  have HS := hid hs
  have HNE := hid hne
  obtain ⟨i0, hi0, hz0, hz1, hz2⟩ := info_parts Try.info_row
  clear hus hs hdk hdn hlt hnd hne hcf hcell hd
  go_enter Try.func32, Try.ntmps32
  go_wp2_with fail
  refine (code_any k m w hk1 hk hm).mono ?_
  rintro e w' ⟨rfl, rfl⟩
  go_wp2_with (refine wpList_mk (by rfl) (.tmp 28) (.tmp 28) 85 4 (.bool false) 1 (by rfl) Try.underlying85 Try.info_bool rfl (k + m) (by omega) (by omega) (by rfl) (by rfl) ?_)
  intro w1 hv1 hlt1 hb1
  have HH := hid (show Half w w1 w.heap.size (k + m) 0 idx us NoOwn (.slice none 0 0) from ⟨OwnSl.nil _ _ _, fun _ e => e.elim, fun _ e => e.elim, by rw [List.take_zero, seenL_nil]; exact hv1, fun e => e, Nat.le_refl _, hb1⟩)
  clear hv1 hlt1 hb1
  go_wp2_with fail
  go_loopw [8, 10, 32] (fun v t i wr => ∃ (j : Nat) (o : Own), j ≤ d ∧ i = .int .i64 j ∧ t = .bool false ∧ Hid (Half w wr w.heap.size (k + m) j idx us o v)) (fun _ _ i _ => (d - intOf i).toNat)
  case atStart => exact ⟨0, NoOwn, Nat.zero_le _, rfl, rfl, HH⟩
  case round =>
    clear HH
    obtain ⟨j, o, hj, rfl, rfl, HH⟩ := hrel
    obtain ⟨B0, cap0, rfl, hcap0⟩ := OwnSl.form HH.out.own
    by_cases hlj : j < d
    · have hji : j < idx.length := by rw [HD.out]; exact hlj
      obtain ⟨hc0, u, hu, hc1⟩ := HCE.out j hji
      have hx0 := (HH.out.below.cell (p := ⟨bf, of + j * 2, none⟩) hbf).trans hc0
      have hx1 := (HH.out.below.cell (p := ⟨bf, of + j * 2 + 1, none⟩) hbf).trans hc1
      have hxl := HLT.out j hji
      have hxn := HND.out j hji
      have hu2 : us.take (j + 1) = us.take j ++ [u] := by
        rw [List.take_add_one, hu]; rfl
      have hi2 : idx.take (j + 1) = idx.take j ++ [idx[j]] := List.take_succ_eq_append_getElem hji
      obtain ⟨u', hu', hbs⟩ := HUS.out j hji
      rw [hu] at hu'
      injection hu' with hu'
      subst hu'
      obtain ⟨bu, ou, cu, rfl, _, _⟩ := hbs.at_ (combine_length (coefs k idx[j]) data 16 HDN.out HNE.out) (by omega)
      generalize idx[j] = x at *
      have HU := hid hu
      clear hbs
      have HU2 := hid hu2
      have HI2 := hid hi2
      have HXN := hid hxn
      clear hc0 hc1 hu hu2 hi2 hxn
      have hbA : Below wr.heap.size wr (wr.alloc (.cells #[.int .i64 x, .slice (some ⟨bu, ou, none⟩) 16 cu] 50)) := (Below.refl _ _).alloc (Nat.le_refl _) _
      have HHA := hid (HH.out.then hbA)
      have HGA := hid (heap_alloc_new wr (.cells #[Value.int .i64 x, .slice (some ⟨bu, ou, none⟩) 16 cu] 50))
      have hne : wr.heap.size ≠ w.heap.size := by have := HH.out.seen.lt; omega
      go_upto_region 9 with fail
      clear hx0 hx1 hbA HH
      generalize wr.alloc (.cells #[.int .i64 x, .slice (some ⟨bu, ou, none⟩) 16 cu] 50) = wA at *
      generalize wr.heap.size = fb at *
      have y0 := cell_block HGA.out 0
      have y1 := cell_block HGA.out 1
      simp only [List.getElem?_toArray, List.getElem?_cons_zero, List.getElem?_cons_succ] at y0 y1
      have hsc : wA.cell? ⟨w.heap.size, x, none⟩ = some (.bool false) := by
        rw [HHA.out.seen.cell x (by rw [seenL_length]; exact hxl), seenL_get _ _ x hxl, decide_eq_false HXN.out]
      have hsf : wA.frozen? ⟨w.heap.size, x, none⟩ = false := HHA.out.seen.free x (by rw [seenL_length]; exact hxl)
      have HSS := hid (show ValsAt (wA.setCell ⟨w.heap.size, x, none⟩ (.bool true)) w.heap.size (seenL (k + m) (idx.take (j + 1))) by
        rw [HI2.out, ← seenL_set _ _ x hxl]
        exact HHA.out.seen.store x _ (by rw [seenL_length]; exact hxl))
      have HFS := hid (show Fr (fun c => c = w.heap.size) wA (wA.setCell ⟨w.heap.size, x, none⟩ (.bool true)) from (Fr.refl _ _).setCell ⟨w.heap.size, x, none⟩ _ (.inl rfl))
      have HOB := hid (HHA.out.own.fr HFS.out (fun c e1 e2 => HHA.out.ns (e2 ▸ e1)))
      have hxm : (x : Int) < (k : Int) + (m : Int) := by omega
      go_upto_region 13 with fail
      have y1b : (wA.setCell ⟨w.heap.size, x, none⟩ (.bool true)).cell? ⟨fb, 1, none⟩ = some (.slice (some ⟨bu, ou, none⟩) 16 cu) := by
        rw [World.cell?_setCell_other _ _ _ _ (by intro e; injection e with e _; exact hne e.symm)]
        exact y1
      have HBB := hid (HHA.out.below.setCell (p := ⟨w.heap.size, x, none⟩) (Nat.le_refl _) (.bool true))
      have HUB := hid (HHA.out.under.mv (w' := wA.setCell ⟨w.heap.size, x, none⟩ (.bool true)) (by simp))
      clear y0 y1 hsc hsf
      have HAB := hid HHA.out.above
      have HNS := hid HHA.out.ns
      clear HHA HFS HGA
      generalize wA.setCell ⟨w.heap.size, x, none⟩ (.bool true) = wB at *
      go_wp2_with (at_builtin; refine wpList_append_sl (by rfl) (.tmp 59) (.tmp 62) 26 (by rfl) 22 i0 _ 1 24 Try.underlying26 hi0 hz0 hz1 hz2 rfl (by decide) o _ (.slice (some ⟨wB.heap.size, 0, none⟩) 1 1) j 1 (us.take j) [.slice (some ⟨bu, ou, none⟩) 16 cu] (by rfl) (by rfl) (HOB.out.below ((Below.refl _ _).alloc (Nat.le_refl _) _)) ⟨rfl, .inr ⟨_, 1, rfl, World.news_of_block (cs := #[.slice (some ⟨bu, ou, none⟩) 16 cu]) (fr := (0, 0)) (heap_alloc_new wB _)⟩⟩ (by intro u hu; simp at hu; subst hu; rfl) (by unfold maxLen; omega) (by omega) ?_)
      intro v6 w6 hown6 hgrow
      have hbs := HBB.out.size
      have HH6 := hid (show Half w w6 w.heap.size (k + m) (j + 1) idx us _ v6 from ⟨by rw [HU2.out]; exact hown6, hgrow.mv.above HAB.out (by simp; omega), hgrow.under (HUB.out.mv (by simp)), (HSS.out.alloc _).fr hgrow HNS.out, fun e => by
        rcases e with e | e
        · exact HNS.out e
        · have := HSS.out.lt; simp at e; omega, Nat.le_refl _, below_of_fr (HBB.out.alloc hbs _) hgrow HAB.out (by simp; omega)⟩)
      clear hown6 hgrow HSS HOB HBB HUB HAB HNS y1b
      go_wp2
      go_roundw
      case rel => exact ⟨j + 1, _, by omega, by go_num, rfl, HH6⟩
      case measure => (simp [intOf]; try omega)
    · obtain rfl : j = d := by omega
      obtain ⟨wh, rfl⟩ : ∃ wh : World, wh = wr := ⟨_, rfl⟩
      have HR := hid (show RowsSl wh (.slice B0 j cap0) (idx.map fun a => combine (coefs k a) data) from by
        refine ⟨us.take j, by rw [List.length_map, HD.out]; exact HH.out.own.args (by unfold maxLen; omega), fun q hq => ?_⟩
        rw [List.length_map] at hq
        obtain ⟨u, hu, hb⟩ := HUS.out q hq
        refine ⟨u, by rw [List.getElem?_take, if_pos (by rw [← HD.out]; exact hq)]; exact hu, ?_⟩
        rw [List.getElem_map]
        exact hb.below HH.out.below)
      have HRL := hid (show (idx.map fun a => combine (coefs k a) data).length = j by rw [List.length_map]; exact HD.out)
      have HRN := hid (show ∀ r ∈ (idx.map fun a => combine (coefs k a) data), r.length = 16 from fun r hr => by
        obtain ⟨a, _, rfl⟩ := List.mem_map.1 hr
        exact combine_length _ _ 16 HDN.out HNE.out)
      have HB := hid HH.out.below
      clear HH hlj hj
      go_wp2_with fail
      refine (level_any HR.out HRL.out HRN.out (by omega) (by omega) (by omega)).mono ?_
      rintro e w' ⟨rfl, rfl⟩
      go_wp2_with (refine wpList_mk (by rfl) (.tmp 76) (.tmp 76) 26 22 (.slice none 0 0) 24 (by rfl) Try.underlying26 Try.info_row rfl k (by omega) (by omega) (by rfl) (by rfl) ?_)
      intro w2 hv2 hlt2 hb2
      obtain ⟨v, hv, hvl, hvr, hvc⟩ := good_sub hk1 (by omega) (show m < 5 by omega) ((List.take_sublist k idx).trans HS.out) (by rw [List.length_take, HD.out]; omega)
      have HV := hid hv
      have HVL := hid hvl
      have HVR := hid hvr
      have HVC := hid (fun i (hi : i < k) => recover hk1 (by omega) (show m < 5 by omega) ((List.take_sublist k idx).trans HS.out) (by rw [List.length_take, HD.out]; omega) 16 data HDK.out HDN.out hv i hi)
      have HP := hid (show PartB w2 wh.heap.size k 0 k ((idx.take k).map (coefs k)) from ⟨_, by simp, hv2, fun i hi => by omega⟩)
      have HX2 := hid hb2
      have HGL2 := hid hlt2
      clear hv2 hlt2 hb2 hv hvl hvr hvc
      go_wp2_with fail
      go_loopw [80] (fun i wx => ∃ q : Nat, q ≤ k ∧ i = .int .i64 q ∧ Hid (PartB wx wh.heap.size k q k ((idx.take k).map (coefs k))) ∧ Hid (wh.heap.size < wx.heap.size) ∧ Hid (Below wh.heap.size wh wx)) (fun i _ => (k - intOf i).toNat)
      case atStart => exact ⟨0, Nat.zero_le _, rfl, HP, HGL2, HX2⟩
      case round =>
        clear HP HX2 HGL2
        obtain ⟨q, hq, rfl, HP, HGL, HX⟩ := hrel
        by_cases hlq : q < k
        · have hqi : q < idx.length := by rw [HD.out]; omega
          have hbw := HB.out.trans (HX.out.mono HB.out.size)
          have hx0 := (hbw.cell (p := ⟨bf, of + q * 2, none⟩) hbf).trans (HCE.out q hqi).1
          have hxl := HLT.out q hqi
          have hgr : ((idx.take k).map (coefs k)).getD q [] = coefs k idx[q] := by
            simp only [List.getD_eq_getElem?_getD, List.getElem?_map]
            rw [List.getElem?_take, if_pos hlq, List.getElem?_eq_getElem hqi]
            rfl
          generalize idx[q] = x at *
          have HGR := hid hgr
          clear hgr hbw
          go_wp2_with fail
          refine (coefs_any k x _ hk1 (by omega) (by omega)).mono ?_
          rintro e w3 ⟨rfl, hx3, hb3⟩
          have HA3 := hid (show ByteAt w3 wr.heap.size 0 (((idx.take k).map (coefs k)).getD q []) by rw [HGR.out]; exact ByteBox.at0 hx3)
          have HP3 := hid (HP.out.below hb3)
          have HX3 := hid (HX.out.trans (hb3.mono HX.out.size))
          have HGL3 := hid (show wh.heap.size < w3.heap.size by have := HGL.out; have := hb3.size; omega)
          have hne3 : wr.heap.size ≠ wh.heap.size := by have := HGL.out; omega
          obtain ⟨hfr, old, hco⟩ := HP3.out.room q hlq
          generalize wr.heap.size = b3 at *
          have HP4 := hid (HP3.out.add (c := k) hlq hne3 HA3.out)
          have HX4 := hid (HX3.out.setCell (p := ⟨wh.heap.size, q, none⟩) (Nat.le_refl _) (.slice (some ⟨b3, 0, none⟩) k k))
          have HGL4 := hid (show wh.heap.size < (w3.setCell ⟨wh.heap.size, q, none⟩ (.slice (some ⟨b3, 0, none⟩) k k)).heap.size by simpa using HGL3.out)
          clear hx3 hb3 HP HGL HX hx0 HA3 HX3 HGL3 HP3
          go_wp2
          go_roundw
          case rel => exact ⟨q + 1, by omega, by go_num, HP4, HGL4, HX4⟩
          case measure => (simp [intOf]; try omega)
        · obtain rfl : q = k := by omega
          have hmr := HP.out.rows (by rw [List.length_map, List.length_take, HD.out]; omega) (fun r hr => by
            obtain ⟨a, _, rfl⟩ := List.mem_map.1 hr
            exact coefs_length _ _) (by unfold maxLen; omega) (by unfold maxLen; omega) q
          have HMR := hid hmr
          clear hmr HP HGL
          go_wp2_with fail
          refine (invert_any HMR.out (by rw [List.length_map, List.length_take, HD.out]; omega) (fun r hr => by
            obtain ⟨a, _, rfl⟩ := List.mem_map.1 hr
            exact coefs_length _ _) hk1 (by omega) HV.out).mono ?_
          rintro e w3 ⟨gi, rfl, hr3, hb3⟩
          have HX3 := hid (HX.out.trans (hb3.mono HX.out.size))
          have HI3 := hid hr3
          clear hr3 hb3 HX HMR
          obtain ⟨hltI, hcI⟩ := HI3.out.box HVL.out hk1
          have HCI := hid hcI
          clear hcI
          go_wp2_with (refine wpList_mk (by rfl) (.tmp 99) (.tmp 99) 26 22 (.slice none 0 0) 24 (by rfl) Try.underlying26 Try.info_row rfl q (by omega) (by omega) (by rfl) (by rfl) ?_)
          intro w4 hv4 hlt4 hb4
          have HP := hid (show PartB w4 w3.heap.size q 0 16 data from ⟨_, by simp, hv4, fun i hi => by omega⟩)
          have HX4 := hid hb4
          have HGL4 := hid hlt4
          have HRT := hid (show RowsSl wh (.slice B0 q cap0) ((idx.take q).map fun a => combine (coefs q a) data) by
            rw [List.map_take]
            exact HR.out.take HRL.out hki)
          have HRTL := hid (show ((idx.take q).map fun a => combine (coefs q a) data).length = q by rw [List.length_map, List.length_take, HD.out]; omega)
          have HRTN := hid (show ∀ r ∈ ((idx.take q).map fun a => combine (coefs q a) data), r.length = 16 from fun r hr => by
            obtain ⟨a, _, rfl⟩ := List.mem_map.1 hr
            exact combine_length _ _ 16 HDN.out HNE.out)
          clear hv4 hlt4 hb4
          go_wp2_with fail
          go_loopw [103] (fun i wx => ∃ p : Nat, p ≤ q ∧ i = .int .i64 p ∧ Hid (PartB wx w3.heap.size q p 16 data) ∧ Hid (w3.heap.size < wx.heap.size) ∧ Hid (Below w3.heap.size w3 wx)) (fun i _ => (q - intOf i).toNat)
          case atStart => exact ⟨0, Nat.zero_le _, rfl, HP, HGL4, HX4⟩
          case round =>
            clear HP HX4 HGL4
            obtain ⟨p, hp, rfl, HP, HGL, HX⟩ := hrel
            by_cases hlp : p < q
            · obtain ⟨u, hu, hs⟩ := HCI.out p hlp
              have hvl : (v.getD p []).length = q := by
                rw [List.getD_eq_getElem?_getD, List.getElem?_eq_getElem (by rw [HVL.out]; exact hlp)]
                exact HVR.out _ (List.getElem_mem _)
              obtain ⟨bi, oi, ci, rfl, _, _⟩ := hs.at_ hvl hk1
              rw [Nat.zero_add] at hu
              have HVP := hid (HVC.out p hlp)
              generalize v.getD p [] = cr at *
              have HCR := hid hs
              have HCL := hid hvl
              have hq0 : (q : Int) ≤ (cap0 : Int) := by omega
              have hne3 : gi ≠ w3.heap.size := by omega
              have HU := hid hu
              clear hs hvl hu
              go_upto_region 32 with fail
              have HW := hid (show Below w3.heap.size w3 wr.drew from HX.out.drew)
              have HPD := hid (show PartB wr.drew w3.heap.size q p 16 data from HP.out.below (below_drewN (Below.refl _ _) 1))
              go_region_held3 (fun w' => w'.cell? ⟨gi, p, none⟩ = some (.slice (some ⟨bi, oi, none⟩) q ci))
                (first | (with_reducible exact (HW.out.cell (p := ⟨gi, p, none⟩) hltI).trans HU.out) | (rw [World.cell?_setCell_other _ _ _ _ (by intro e; injection e with e _; exact hne3 e.symm)]; exact (HW.out.cell (p := ⟨gi, p, none⟩) hltI).trans HU.out))
                ((go_at_call 33; refine (combine_any (HCR.out.below HW.out) (HRT.out.below (HX3.out.trans (HW.out.mono HX3.out.size))) HCL.out HRTL.out HRTN.out hk1 (by omega) (by omega) (by omega)).mono ?_; rintro e wx ⟨rfl, hx, hb⟩; replace HPD := hid (HPD.out.below hb); replace HW := hid (HW.out.trans (hb.mono HW.out.size)); obtain ⟨hfr, old, hco⟩ := HPD.out.room p hlp; have HAX := hid (ByteBox.at0 hx); clear hx hb))
              have HP5 := hid (HPD.out.add (c := 16) (b := wr.heap.size) (off := 0) hlp (by have := HGL.out; omega) (show ByteAt _ wr.heap.size 0 (data.getD p []) by rw [← HVP.out]; exact HAX.out))
              have HX5 := hid (HW.out.setCell (p := ⟨w3.heap.size, p, none⟩) (Nat.le_refl _) (.slice (some ⟨wr.heap.size, 0, none⟩) 16 16))
              have HGL5 := hid (show w3.heap.size < (wx.setCell ⟨w3.heap.size, p, none⟩ (.slice (some ⟨wr.heap.size, 0, none⟩) 16 16)).heap.size by rw [World.size_setCell]; have := HPD.out.room p hlp; have := HW.out.size; obtain ⟨vs, _, hvx, _⟩ := HPD.out; exact hvx.lt)
              clear HPD HW HAX HP HX HGL hfr hco
              go_wp2
              go_roundw
              case rel => exact ⟨p + 1, by omega, by go_num, HP5, HGL5, HX5⟩
              case measure => (simp [intOf]; try omega)
            · obtain rfl : p = q := by omega
              have hdr := HP.out.rows HDK.out HDN.out (by unfold maxLen; omega) (by unfold maxLen; omega) p
              have HDR := hid hdr
              have HX6 := hid (HX3.out.trans (HX.out.mono HX3.out.size))
              clear hdr HP HGL HX hlp hp
              go_wp2_with fail
              refine (word_any HDR.out HDK.out HDN.out hk1 hk hm (by omega) (by omega)).mono ?_
              rintro e w7 ⟨v7, rfl, hv7, hr7, hb7⟩
              obtain ⟨b7, o7, c7, rfl, hc7⟩ := hv7
              have HX7 := hid (HX6.out.trans (hb7.mono HX6.out.size))
              have HR7 := hid hr7
              clear hr7 hb7 HDR HX6
              go_wp2_with fail
              go_loopw [127] (fun i wx => ∃ q : Nat, q ≤ j ∧ i = .int .i64 q ∧ Hid (Below w7.heap.size w7 wx)) (fun i _ => (j - intOf i).toNat)
              case atStart => exact ⟨0, Nat.zero_le _, rfl, Below.refl _ _⟩
              case round =>
                obtain ⟨q, hq, rfl, HX⟩ := hrel
                by_cases hlq : q < j
                · have hqi : q < idx.length := by rw [HD.out]; exact hlq
                  obtain ⟨hc0, u, hu, hc1⟩ := HCE.out q hqi
                  have hbw := HB.out.trans ((HX7.out.trans (HX.out.mono HX7.out.size)).mono HB.out.size)
                  have hx0 := (hbw.cell (p := ⟨bf, of + q * 2, none⟩) hbf).trans hc0
                  have hx1 := (hbw.cell (p := ⟨bf, of + q * 2 + 1, none⟩) hbf).trans hc1
                  have hxl := HLT.out q hqi
                  obtain ⟨u', hu', hbs⟩ := HUS.out q hqi
                  rw [hu] at hu'
                  injection hu' with hu'
                  subst hu'
                  have hcl := combine_length (coefs p idx[q]) data 16 HDN.out HNE.out
                  obtain ⟨bu, ou, cu, rfl, _, _⟩ := hbs.at_ hcl (by omega)
                  have HAU := hid ((hbs.below hbw).at1 hcl (by omega))
                  obtain ⟨_, hc8⟩ := HR7.out.box (word_length p m data) (by omega)
                  obtain ⟨u8, hu8, hb8⟩ := hc8 idx[q] hxl
                  rw [word_get p m data idx[q] hxl] at hb8
                  obtain ⟨b9, o9, c9, rfl, _, _⟩ := hb8.at_ hcl (by omega)
                  have HAO := hid ((hb8.below HX.out).at1 hcl (by omega))
                  have hlt7 := (HR7.out.box (word_length p m data) (by omega)).1
                  have hx8 := (HX.out.cell (p := ⟨b7, o7 + idx[q], none⟩) hlt7).trans hu8
                  generalize combine (coefs p idx[q]) data = crow at *
                  generalize idx[q] = x at *
                  have HCL := hid hcl
                  have hbA : Below wr.heap.size wr (wr.alloc (.cells #[.int .i64 x, .slice (some ⟨bu, ou, none⟩) 16 cu] 50)) := (Below.refl _ _).alloc (Nat.le_refl _) _
                  have HGA := hid (heap_alloc_new wr (.cells #[Value.int .i64 x, .slice (some ⟨bu, ou, none⟩) 16 cu] 50))
                  have HAU2 := hid (HAU.out.below hbA)
                  have HAO2 := hid (HAO.out.below hbA)
                  have hlt8 : b7 < wr.heap.size := Nat.lt_of_lt_of_le hlt7 HX.out.size
                  have HX8 := hid ((hbA.cell (p := ⟨b7, o7 + x, none⟩) hlt8).trans hx8)
                  have HXA := hid (HX.out.trans (hbA.mono HX.out.size))
                  clear hc0 hc1 hu hbs hcl hc8 hu8 hb8 hx8 hbA HAU HAO hbw
                  go_upto_region 38 with fail
                  clear hx0 hx1
                  generalize wr.alloc (.cells #[.int .i64 x, .slice (some ⟨bu, ou, none⟩) 16 cu] 50) = wA at *
                  generalize wr.heap.size = fb at *
                  have y0 : ∀ n, (wA.drewN n).cell? ⟨fb, 0, none⟩ = some (.int .i64 x) := fun n => cell_block HGA.out 0
                  have y1 : ∀ n, (wA.drewN n).cell? ⟨fb, 1, none⟩ = some (.slice (some ⟨bu, ou, none⟩) 16 cu) := fun n => cell_block HGA.out 1
                  have y2 : ∀ n, (wA.drewN n).cell? ⟨b7, o7 + x, none⟩ = some (.slice (some ⟨b9, o9, none⟩) 16 c9) := fun n => HX8.out
                  have s1 := fun n => ByteAt.str (ByteAt.of_block (w' := wA.drewN n) HAU2.out (Nat.le_refl _) rfl) HCL.out cu
                  have s2 := fun n => ByteAt.str (ByteAt.of_block (w' := wA.drewN n) HAO2.out (Nat.le_refl _) rfl) HCL.out c9
                  have hse := str_eq (bstr crow)
                  have hxa : (x : Int) < (p : Int) + (m : Int) := by omega
                  have hxb : (x : Int) < ((p + m : Nat) : Int) := by omega
                  go_big_quiet (fail)
                  have HXB := hid (below_drewN HXA.out nq)
                  clear s1 s2 y0 y1 y2
                  go_wp2
                  go_roundw
                  case rel => exact ⟨q + 1, by omega, by go_num, HXB⟩
                  case measure => (simp [intOf]; try omega)
                · obtain rfl : q = j := by omega
                  have HF := hid (HB.out.trans ((HX7.out.trans (HX.out.mono HX7.out.size)).mono HB.out.size))
                  have HRF := hid (HR7.out.below HX.out)
                  go_wp2
                  go_ret2
                  exact ⟨_, rfl, ⟨b7, o7, c7, rfl, hc7⟩, HRF.out, HF.out⟩
end Go.Proofs.Ytgeopgibjmhehaa

/- Decode. -/
namespace Go.Proofs.Ytgeopgibjmhehaa
open Go Go.RowKit Go.Sort
attribute [local go_sem ↓] Go.wp_at_zero Go.wp_at_succ

theorem word_data (k m n : Nat) (data : List (List B8)) (hk : data.length = k) (h : ∀ r ∈ data, r.length = n) : (word k m data).take k = data := by
  refine List.ext_getElem (by rw [List.length_take, word_length]; omega) fun i h1 h2 => ?_
  rw [List.length_take, word_length] at h1
  have e := combine_unit k i n (by omega) data hk h
  rw [List.getElem_take]
  have e1 := word_get k m data i (by omega)
  rw [List.getD_eq_getElem?_getD, List.getElem?_eq_getElem (by rw [word_length]; omega)] at e1
  rw [List.getD_eq_getElem?_getD, List.getElem?_eq_getElem h2] at e
  simp only [Option.getD_some] at e e1
  rw [e1, e]
set_option maxHeartbeats 1000000 in
theorem decode_any {vf : Value} {idx : List Nat} {us : List Value} {data : List (List B8)} {k m : Nat} {w : World} (hf : FragsAt w vf idx us) (hus : ∀ j (h : j < idx.length), ∃ u, us[j]? = some u ∧ ByteSl w u (combine (coefs k idx[j]) data))
    (hs : idx.Sublist (List.range (k + m))) (hki : k ≤ idx.length) (hdk : data.length = k) (hdn : ∀ r ∈ data, r.length = 16) (hk1 : 1 ≤ k) (hk : k ≤ 4) (hm : m ≤ 4) :
    Calls Try.prog 13 #[.int .i64 k, .int .i64 m, vf] w fun e w' => ∃ b off, e = .returned (.tuple #[.slice (some ⟨b, off, none⟩) k k, .int .i64 0]) ∧ RowsSl w' (.slice (some ⟨b, off, none⟩) k k) data ∧ Below w.heap.size w w' := by
  have HF := hid hf
  have HUS := hid hus
  have HS := hid hs
  have HKI := hid hki
  have HDK := hid hdk
  have HDN := hid hdn
  clear hf hus hs hki hdk hdn
  go_enter Try.func13, Try.ntmps13
  go_wp2_with fail
  refine (whole_any HF.out HUS.out HS.out HKI.out HDK.out HDN.out hk1 hk hm).mono ?_
  rintro e w1 ⟨v, rfl, hv, hr, hb⟩
  obtain ⟨b, off, c, rfl, hc⟩ := hv
  have HR := hid (show RowsSl w1 (.slice (some ⟨b, off, none⟩) k k) data from by
    have h1 := hr.take (k := k) (word_length k m data) (by omega)
    rw [word_data k m 16 data HDK.out HDN.out] at h1
    obtain ⟨vs, ⟨e1, e2, A, c', e, e3⟩, h2⟩ := h1
    injection e with a1 a2 a3
    subst a1
    refine ⟨vs, ⟨e1, e2, _, k, by rw [HDK.out], e3⟩, h2⟩)
  have HB := hid hb
  clear hr hb
  have hk0 : (k : Int) ≤ (c : Int) := by omega
  go_wp2
  go_ret2
  exact ⟨b, off, rfl, HR.out, HB.out⟩
end Go.Proofs.Ytgeopgibjmhehaa
