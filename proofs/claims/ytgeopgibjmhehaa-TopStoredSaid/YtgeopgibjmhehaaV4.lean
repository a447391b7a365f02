/- Lists of rows that are appended to; level, word, Encode. -/
import Derived.Test.YtgeopgibjmhehaaV3
import Derived.OwnWalk
namespace Go.Proofs.Ytgeopgibjmhehaa
open Go Go.RowKit Go.Sort

/-- From a place of a block on lie the bytes l. -/
structure ByteAt (w : World) (b off : Nat) (l : List B8) : Prop where
  lt : b < w.heap.size
  cell : ∀ k (h : k < l.length), w.cell? ⟨b, off + k, none⟩ = some (b8 l[k])
theorem ByteAt.of_block {w w' : World} {b off : Nat} {l : List B8} (h : ByteAt w b off l) (hs : w.heap.size ≤ w'.heap.size) (hb : w'.heap[b]? = w.heap[b]?) : ByteAt w' b off l :=
  ⟨Nat.lt_of_lt_of_le h.lt hs, fun k hk => (World.cell?_of_block (w := w) (a := ⟨b, off + k, none⟩) hb).trans (h.cell k hk)⟩
theorem ByteAt.below {w w' : World} {b off : Nat} {l : List B8} (h : ByteAt w b off l) (hb : Below w.heap.size w w') : ByteAt w' b off l := h.of_block hb.size (hb.block b h.lt)
theorem ByteAt.fr {w w' : World} {o : Own} {b off : Nat} {l : List B8} (h : ByteAt w b off l) (hf : Fr o w w') (hb : ¬ o b) : ByteAt w' b off l := h.of_block hf.size (hf.block b h.lt hb)
theorem ByteBox.at0 {w : World} {b : Nat} {l : List B8} (h : ByteBox w b l) : ByteAt w b 0 l := ⟨h.lt, fun k hk => by rw [Nat.zero_add]; exact h.get k hk⟩
theorem ByteAt.sl {w : World} {b off : Nat} {l : List B8} (h : ByteAt w b off l) (hm : l.length ≤ maxLen) (c : Nat) : ByteSl w (.slice (some ⟨b, off, none⟩) l.length c) l := by
  refine ⟨by simp [bcells_length], hm, some ⟨b, off, none⟩, c, rfl, fun _ => ⟨b, off, rfl, h.lt, fun j u hu => ?_⟩⟩
  have hj : j < l.length := by have := (List.getElem?_eq_some_iff.1 hu).1; rwa [bcells_length] at this
  rw [h.cell j hj]
  rw [bcells_get l j hj] at hu
  exact hu
/-- The slice v, which the call appends to, holds rows of n bytes. -/
def OutRows (w : World) (o : Own) (v : Value) (n : Nat) (ls : List (List B8)) : Prop :=
  Under w o ∧ ∃ vs, OwnSl w o 1 v ls.length vs ∧ ∀ i (h : i < ls.length), ∃ b off c, vs[i]? = some (.slice (some ⟨b, off, none⟩) n c) ∧ ¬ o b ∧ ByteAt w b off ls[i]
section
variable {w w' w1 w2 : World} {o : Own} {v v' : Value} {n : Nat} {ls : List (List B8)} {l : List B8}
theorem OutRows.below (h : OutRows w o v n ls) (hb : Below w.heap.size w w') : OutRows w' o v n ls := by
  obtain ⟨hu, vs, h1, h2⟩ := h
  refine ⟨hu.mv hb.size, vs, h1.below hb, fun i hi => ?_⟩
  obtain ⟨b, off, c, e, hn, hx⟩ := h2 i hi
  exact ⟨b, off, c, e, hn, hx.below hb⟩
theorem OwnSl.unique {size m : Nat} {xs ys : List Value} (h : OwnSl w o size v m xs) (k : OwnSl w o size v m ys) : xs = ys := by
  have hl := h.1.trans k.1.symm
  refine List.ext_getElem hl fun i h1 h2 => ?_
  have hm : 0 < m := by
    rcases Nat.eq_zero_or_pos m with e | e
    · rw [h.1, e, Nat.zero_mul] at h1; omega
    · exact e
  obtain ⟨g, off, cap, e, _, _, _, _, hc, _⟩ := h.some_ hm
  obtain ⟨g', off', cap', e', _, _, _, _, hc', _⟩ := k.some_ hm
  rw [e] at e'
  injection e' with e1 _ _
  injection e1 with e1
  injection e1 with e1 e2
  subst e1; subst e2
  have a1 := hc i _ (List.getElem?_eq_getElem h1)
  have a2 := hc' i _ (List.getElem?_eq_getElem h2)
  rw [a1] at a2
  injection a2
theorem OutRows.app' (h : OutRows w1 o v n ls) {b off c j : Nat} (hn : ¬ o b) (hx : ByteAt w1 b off l) {vs : List Value} (hv : OwnSl w1 o 1 v j vs) (hj : ls.length = j)
    (happ : OwnSl w2 (Grow o w1 w2) 1 v' (j + 1) (vs ++ [.slice (some ⟨b, off, none⟩) n c])) (hf : Fr o w1 w2) : OutRows w2 (Grow o w1 w2) v' n (ls ++ [l]) := by
  subst hj
  obtain ⟨hu, vs', h1, h2⟩ := h
  obtain rfl := h1.unique hv
  have hlv : vs'.length = ls.length := by have := h1.1; omega
  have hng : ∀ c, ¬ o c → c < w1.heap.size → ¬ Grow o w1 w2 c := fun c h1 h2 e => by
    rcases e with e | e
    · exact h1 e
    · omega
  refine ⟨hf.under hu, vs' ++ [.slice (some ⟨b, off, none⟩) n c], by rw [List.length_append]; exact happ, fun i hi => ?_⟩
  by_cases hlt : i < ls.length
  · obtain ⟨d, of2, c2, e, hc, hy⟩ := h2 i hlt
    refine ⟨d, of2, c2, by rw [List.getElem?_append_left (by omega)]; exact e, hng d hc hy.lt, ?_⟩
    rw [List.getElem_append_left hlt]
    exact hy.fr hf hc
  · rw [List.length_append] at hi
    obtain rfl : i = ls.length := by simp at hi; omega
    refine ⟨b, off, c, by rw [List.getElem?_append_right (by omega), hlv, Nat.sub_self]; rfl, hng b hn hx.lt, ?_⟩
    rw [List.getElem_append_right (Nat.le_refl _)]
    simp only [Nat.sub_self, List.getElem_cons_zero]
    exact hx.fr hf hn
theorem OwnSl.args {size m : Nat} {xs : List Value} (h : OwnSl w o size v m xs) (hm : m ≤ maxLen) : ArgSl w size v m xs := by
  refine ⟨h.1, hm, ?_⟩
  obtain ⟨A, cap, rfl, _⟩ := h.form
  refine ⟨A, cap, rfl, fun h0 => ?_⟩
  obtain ⟨g, off, cap, e, _, hg, _, _, hc, _⟩ := h.some_ h0
  injection e with e1 _ _
  exact ⟨g, off, e1, hg, hc⟩
theorem OutRows.rows (h : OutRows w o v n ls) (hl : ∀ r ∈ ls, r.length = n) (hn : n ≤ maxLen) (hm : ls.length ≤ maxLen) : RowsSl w v ls := by
  obtain ⟨_, vs, h1, h2⟩ := h
  refine ⟨vs, h1.args hm, fun k hk => ?_⟩
  obtain ⟨b, off, c, e, _, hx⟩ := h2 k hk
  refine ⟨_, e, ?_⟩
  have hk2 := hl _ (List.getElem_mem hk)
  have := hx.sl (by omega) c
  rw [hk2] at this
  exact this
theorem OutRows.form (h : OutRows w o v n ls) {j : Nat} (hj : ls.length = j) : ∃ A cap, v = .slice A j cap ∧ j ≤ cap := by
  subst hj
  obtain ⟨_, vs, h1, _⟩ := h
  obtain ⟨A, cap, e, hc⟩ := h1.form
  exact ⟨A, cap, e, hc⟩
theorem OutRows.some_ (h : OutRows w o v n ls) {j : Nat} (hj : ls.length = j) (h0 : 0 < j) : ∃ b off cap, v = .slice (some ⟨b, off, none⟩) j cap ∧ j ≤ cap := by
  subst hj
  obtain ⟨_, vs, h1, _⟩ := h
  obtain ⟨g, off, cap, e, _, _, hc, _⟩ := h1.some_ h0
  exact ⟨g, off, cap, e, hc⟩
end
/-- 'out = append(out, row)' of a row in a block of its own. -/
theorem wpList_append_out {w : World} {ops : Array Oper} {rest : List Oper} {op : Oper} {a : Act} {Q : Exit → Act → World → Prop} (hgd : op.guard = none) (s y : Operand)
    (ho : op.op = .call { callee := .builtin .append, args := #[s, y], argTypes := #[26, 26] }) {o : Own} {v : Value} {n j b off c : Nat} {ls : List (List B8)} {l : List B8} (h : OutRows w o v n ls) (hj : ls.length = j) (hj2 : j ≤ 1000) (hn : ¬ o b) (hx : ByteAt w b off l)
    (hs : a.eval s = v) (hy : a.eval y = .slice (some ⟨w.heap.size, 0, none⟩) 1 1)
    (hK : ∀ v' w', OutRows w' (Grow o (w.alloc (.cells #[.slice (some ⟨b, off, none⟩) n c] 22)) w') v' n (ls ++ [l]) → Fr o (w.alloc (.cells #[.slice (some ⟨b, off, none⟩) n c] 22)) w' → wpList Try.prog ops Q rest (a.put op.dst v') w') :
    wpList Try.prog ops Q (op :: rest) a (w.alloc (.cells #[.slice (some ⟨b, off, none⟩) n c] 22)) := by
  obtain ⟨i0, hi0, hz0, hz1, hz2⟩ := info_parts Try.info_row
  have hb : Below w.heap.size w (w.alloc (.cells #[.slice (some ⟨b, off, none⟩) n c] 22)) := (Below.refl _ _).alloc (Nat.le_refl _) _
  have h1 := h.below hb
  have hx1 : ByteAt _ b off l := hx.below hb
  have h2 := h1
  obtain ⟨_, vs, hv, _⟩ := h2
  rw [hj] at hv
  refine wpList_append_sl hgd s y 26 ho 22 i0 _ 1 24 Try.underlying26 hi0 hz0 hz1 hz2 rfl (by decide) o v (.slice (some ⟨w.heap.size, 0, none⟩) 1 1) j 1 vs [.slice (some ⟨b, off, none⟩) n c] hs hy hv
    ⟨rfl, .inr ⟨_, 1, rfl, World.news_of_block (cs := #[.slice (some ⟨b, off, none⟩) n c]) (fr := (0, 0)) (heap_alloc_new w _)⟩⟩ (by intro u hu; simp at hu; subst hu; rfl) (by unfold maxLen; omega) (by omega) fun v' w' hown hf => ?_
  refine hK v' w' ?_ hf
  refine OutRows.app' h1 hn hx1 hv hj hown hf
set_option maxHeartbeats 1000000 in
theorem code_any (k m : Nat) (w : World) (hk1 : 1 ≤ k) (hk : k ≤ 4) (hm : m ≤ 4) : Calls Try.prog 16 #[.int .i64 k, .int .i64 m] w fun e w' => e = .returned (.bool true) ∧ w = w' := by
  go_enter Try.func16, Try.ntmps16
  go_wp2
  go_ret
  exact ⟨by simp; omega, rfl⟩
set_option maxHeartbeats 1000000 in
theorem level_any {vr : Value} {rows : List (List B8)} {m n : Nat} {w : World} (hr : RowsSl w vr rows) (hrm : rows.length = m) (hrn : ∀ r ∈ rows, r.length = n) (hm : 0 < m) (hm2 : m ≤ 10) (hn : 0 < n) :
    Calls Try.prog 17 #[vr] w fun e w' => e = .returned (.bool true) ∧ w = w' := by
  obtain ⟨br, or, cr, rfl, hbr, hcr⟩ := hr.at_ hrm hm
  obtain ⟨u0, hu0, hs0⟩ := hcr 0 hm
  obtain ⟨b0, o0, c0, rfl, _, _⟩ := hs0.at_ (row_len hrm hrn 0 hm) hn
  rw [Nat.add_zero] at hu0
  have HCR := hid hcr
  have HRN := hid (row_len hrm hrn)
  clear hcr hrn hrm hr hs0
  have hne : ((n : Int) != (n : Int)) = false := by simp
  go_enter Try.func17, Try.ntmps17
  go_wp2
  go_loop [7] (fun i => ∃ j : Nat, j ≤ m ∧ i = .int .i64 j) (fun i => (m - intOf i).toNat)
  case atStart => exact ⟨0, Nat.zero_le _, rfl⟩
  case round =>
    obtain ⟨j, hj, rfl⟩ := hrel
    by_cases hlt : j < m
    · obtain ⟨u, hu, hs⟩ := HCR.out j hlt
      obtain ⟨bi, oi, cap, rfl, hbi, hcell⟩ := hs.at_ (HRN.out j hlt) hn
      clear hs hcell
      go_wp2
      go_round
      case rel => exact ⟨j + 1, by omega, by go_num⟩
      case measure => (simp [intOf]; try omega)
    · go_wp2
      go_ret
      exact ⟨rfl, rfl⟩
theorem word_take (k m : Nat) (data : List (List B8)) (j : Nat) (h : j < k + m) : (word k m data).take (j + 1) = (word k m data).take j ++ [combine (coefs k j) data] := by
  rw [List.take_succ_eq_append_getElem (by rw [word_length]; exact h)]
  congr 2
  simp [word]
theorem word_rows (k m : Nat) (data : List (List B8)) (n : Nat) (hn : ∀ r ∈ data, r.length = n) (hd : data ≠ []) : ∀ r ∈ word k m data, r.length = n := fun r hr => by
  obtain ⟨a, _, rfl⟩ := List.mem_map.1 hr
  exact combine_length _ _ n hn hd
set_option maxRecDepth 100000 in
set_option maxHeartbeats 2000000 in
theorem word_any {vd : Value} {data : List (List B8)} {k m n : Nat} {w : World} (hd : RowsSl w vd data) (hdk : data.length = k) (hdn : ∀ r ∈ data, r.length = n) (hk1 : 1 ≤ k) (hk : k ≤ 4) (hm : m ≤ 4) (hn : 0 < n) (hn2 : n ≤ 1000) :
    Calls Try.prog 18 #[.int .i64 k, .int .i64 m, vd] w fun e w' => ∃ v, e = .returned v ∧ (∃ b off c, v = .slice (some ⟨b, off, none⟩) (k + m) c ∧ k + m ≤ c) ∧ RowsSl w' v (word k m data) ∧ Below w.heap.size w w' := by
  have hne : data ≠ [] := by rintro rfl; simp at hdk; omega
  have HD := hid hd
  have HK := hid (And.intro hdk hdn)
  have HW := hid (word_rows k m data n hdn hne)
  have HT := hid (word_take k m data)
  obtain ⟨i0, hi0, hz0, hz1, hz2⟩ := info_parts Try.info_row
  clear hd hdk hdn hne
  go_enter Try.func18, Try.ntmps18
  go_wp2_with (refine wpList_make_own _ (by rfl) (.const (.int .i64 0)) (.tmp 13) 26 (by rfl) w.heap.size 22 i0 (.slice none 0 0) 1 Try.underlying26 hi0 hz0 hz1 .i64 .i64 ((k : Int) + (m : Int)) (k + m) (by rfl) (by rfl) (by omega) (by rw [hz2]; omega) (by unfold maxLen; omega) (Nat.le_refl _) ?_)
  intro w1 hown hgr
  have hb1 : Below w.heap.size w w1 := (Below.refl _ _).grown hgr (Nat.le_refl _) (fun k h => by cases h)
  have hout : OutRows w1 (fun c => w.heap.size ≤ c ∧ c < w1.heap.size) (.slice (some ⟨w.heap.size, 0, none⟩) 0 (k + m)) n ((word k m data).take 0) := by
    refine ⟨fun c h => h.2, [], ?_, fun i hi => by simp at hi⟩
    have := OwnSl.of_row (o := fun c => w.heap.size ≤ c) hown (fun _ h => h)
    obtain ⟨e1, e2⟩ := this
    refine ⟨e1, ?_⟩
    rcases e2 with e2 | ⟨g, off, cap, a, b, c, d⟩
    · exact .inl e2
    · exact .inr ⟨g, off, cap, a, ⟨b, c⟩, c, d⟩
  have HO := hid hout
  have HB := hid hb1
  clear hown hgr hb1 hout
  go_wp2_with fail
  go_loopw [7, 8] (fun v i wr => ∃ (j : Nat) (o : Own), j ≤ k + m ∧ i = .int .i64 j ∧ Hid (OutRows wr o v n ((word k m data).take j)) ∧ Hid (Above w.heap.size o) ∧ Hid (Below w.heap.size w wr)) (fun _ i _ => (k + m - intOf i).toNat)
  case atStart => exact ⟨0, _, Nat.zero_le _, rfl, HO, hid (fun c h => h.1), HB⟩
  case round =>
    clear HO HB
    obtain ⟨j, o, hj, rfl, HO, HA, HB⟩ := hrel
    have HTL := hid (show ((word k m data).take j).length = j by rw [List.length_take, word_length]; omega)
    obtain ⟨A, cap, rfl, hcap⟩ := HO.out.form HTL.out
    by_cases hlt : j < k + m
    · go_wp2_with fail
      refine (coefs_any k j wr hk1 (by omega) (by omega)).mono ?_
      rintro e w2 ⟨rfl, hx2, hb2⟩
      have hc2 := ByteBox.sl hx2 (by rw [coefs_length]; unfold maxLen; omega) k
      rw [coefs_length] at hc2
      have HO2 := hid (HO.out.below hb2)
      have HB2 := hid (HB.out.trans (hb2.mono HB.out.size))
      have HC2 := hid hc2
      clear hx2 hb2 hc2 HO HB
      go_wp2_with fail
      refine (combine_any HC2.out (HD.out.below HB2.out) (coefs_length k j) HK.out.1 HK.out.2 (by omega) (by omega) hn hn2).mono ?_
      rintro e w3 ⟨rfl, hx3, hb3⟩
      have HO3 := hid (HO2.out.below hb3)
      have HB3 := hid (HB2.out.trans (hb3.mono HB2.out.size))
      have HX3 := hid (show ByteBox w3 w2.heap.size (combine (coefs k j) data) from hx3)
      have HN3 := hid (show ¬ o w2.heap.size from fun e => by have := HO2.out.1 _ e; omega)
      clear hx3 hb3 HO2 HB2 HC2
      generalize w2.heap.size = b at *
      have HTT := hid (HT.out j hlt)
      obtain ⟨ls, hls⟩ : ∃ ls, (word k m data).take j = ls := ⟨_, rfl⟩
      rw [hls] at HO3 HTL HTT
      clear hls
      go_wp2_with (at_builtin; refine wpList_append_out (by rfl) (.tmp 30) (.tmp 32) (by rfl) HO3.out HTL.out (by omega) HN3.out (ByteBox.at0 HX3.out) (by rfl) (by rfl) ?_)
      intro v4 w4 ho4 hf4
      have hs3 := HB3.out.size
      have HO4 := hid (show OutRows w4 _ v4 n ((word k m data).take (j + 1)) by rw [HTT.out]; exact ho4)
      have HA4 := hid (hf4.mv.above HA.out (by simp; omega))
      have HB4 := hid (below_of_fr (HB3.out.alloc hs3 _) hf4 HA.out (by simp; omega))
      clear ho4 hf4 HO3 HX3 HB3 HA HTT
      go_wp2
      go_roundw
      case rel => exact ⟨j + 1, _, by omega, by go_num, HO4, HA4, HB4⟩
      case measure => (simp [intOf]; try omega)
    · obtain rfl : j = k + m := by omega
      have hx := HO.out.rows (fun r hr => HW.out r (List.mem_of_mem_take hr)) (by unfold maxLen; omega) (by rw [List.length_take]; unfold maxLen; omega)
      rw [List.take_of_length_le (by rw [word_length]; exact Nat.le_refl _)] at hx
      obtain ⟨b, off, cap', e, hcap'⟩ := HO.out.some_ HTL.out (by omega)
      injection e with e1 _ e3
      subst e1; subst e3
      have HX := hid hx
      clear hx
      go_wp2
      go_ret
      exact ⟨_, rfl, ⟨b, off, cap, rfl, hcap'⟩, HX.out, HB.out⟩
end Go.Proofs.Ytgeopgibjmhehaa
