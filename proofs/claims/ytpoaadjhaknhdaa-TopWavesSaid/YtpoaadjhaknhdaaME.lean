/- slices.Clone of numbers. -/
import Derived.Test.YtpoaadjhaknhdaaW25
namespace Go.Proofs.Ytpoaadjhaknhdaa
open Go Go.RowKit Go.Sort Go.Deep

def intVals (l : List Int) : List Value := l.map fun i => .int .i64 i
theorem intVals_length (l : List Int) : (intVals l).length = l.length := by simp [intVals]
theorem ListAt.src {w : World} {g off n c : Nat} {l : List Int} (h : ListAt w (.slice (some ⟨g, off, none⟩) n c) l) : Src w 1 (.slice (some ⟨g, off, none⟩) n c) l.length (intVals l) := by
  obtain ⟨A, c', e, _, _, h3⟩ := h
  injection e with e1 e2 e3
  subst e2 e3
  refine ⟨by rw [intVals_length, Nat.mul_one], .inr ⟨_, c, rfl, fun j u hu => ?_⟩⟩
  have hj : j < l.length := by have := (List.getElem?_eq_some_iff.1 hu).1; rwa [intVals_length] at this
  obtain ⟨g', off', e', _, hc⟩ := h3 (by omega)
  rw [← e1] at e'
  injection e' with e'
  injection e' with e4 e5 _
  subst e4 e5
  rw [add_plain, hc j hj]
  simp [intVals, hj] at hu
  rw [hu]
theorem OwnSl.list {w : World} {o : Own} {v : Value} {l : List Int} (h : OwnSl w o 1 v l.length (intVals l)) : ListAt w v l := by
  rcases Nat.eq_zero_or_pos l.length with h0 | h0
  · rcases h.2 with ⟨rfl, _⟩ | ⟨g, off, c, rfl, _, _, hnc, hc, _⟩
    · exact ⟨none, 0, by rw [h0], by omega, Nat.zero_le _, fun h => by omega⟩
    · exact ⟨_, c, rfl, hnc, hc, fun h => by omega⟩
  · obtain ⟨g, off, c, rfl, _, hg, hnc, hc, hx, _⟩ := h.some_ h0
    exact ⟨_, c, rfl, hnc, hc, fun _ => ⟨g, off, rfl, hg, fun j hj => hx j _ (by simp [intVals, hj])⟩⟩
theorem ints_one (l : List Int) : ∀ u ∈ intVals l, u.oneCell' = true := by
  intro u hu
  obtain ⟨x, _, rfl⟩ := List.mem_map.1 hu
  rfl
set_option maxRecDepth 100000 in
set_option maxHeartbeats 800000 in
theorem clone_any {w : World} {g off n c : Nat} {l : List Int} (h : ListAt w (.slice (some ⟨g, off, none⟩) n c) l) (hl : l.length ≤ 100) : Calls Try.prog 19 #[.slice (some ⟨g, off, none⟩) n c] w fun e w' => ∃ v o, e = .returned v ∧ OwnSl w' o 1 v l.length (intVals l) ∧ Above w.heap.size o ∧ Below w.heap.size w w' := by
  obtain ⟨i0, hi0, hz0, hz1, hz2⟩ := info_parts Try.info_int
  have HS := hid (h.src)
  obtain ⟨_, _, e, _⟩ := id h
  injection e with e1 e2 e3
  clear e1 e3
  have HN := hid e2
  clear e2 h
  have hb := (Below.refl w.heap.size w).alloc (Nat.le_refl _) (.cells #[] 3)
  have HSB := hid (show Src (w.alloc (.cells #[] 3)) 1 (.slice (some ⟨g, off, none⟩) n c) l.length (intVals l) from by
    obtain ⟨h1, h2⟩ := HS.out
    refine ⟨h1, ?_⟩
    rcases h2 with h2 | ⟨ad, c', e, hc⟩
    · exact .inl h2
    · refine .inr ⟨ad, c', e, fun j u hu => ?_⟩
      have := hc j u hu
      exact (hb.cell (World.block_lt_of_cell? w _ this)).trans this)
  have HO := hid (show OwnSl (w.alloc (.cells #[] 3)) (fun k => k = w.heap.size) 1 (.slice (some ⟨w.heap.size, 0, none⟩) 0 0) 0 [] from ⟨rfl, .inr ⟨w.heap.size, 0, 0, rfl, rfl, by simp, Nat.le_refl _, Nat.zero_le _, (fun j u hu => by cases hu), (fun j hj => by omega)⟩⟩)
  go_enter Try.func19, Try.ntmps19
  have kn : (binOp .eql 22 (.slice (some ⟨g, off, none⟩) n c) (.slice none 0 0)).run Try.prog w = .ok (.bool false) w := Lib.run_eql_slice_nil w 22 3 (some ⟨g, off, none⟩) n c 0 0 Try.underlying22
  go_wp2_with (at_builtin; refine wpList_append_sl (by rfl) (.tmp 5) (.tmp 6) 22 (by rfl) 3 i0 _ 1 8 Try.underlying22 hi0 hz0 hz1 hz2 rfl (by decide) (fun k => k = w.heap.size) _ (.slice (some ⟨g, off, none⟩) n c) 0 l.length [] (intVals l) (by rfl) (by rfl) HO.out HSB.out (ints_one l) (by unfold maxLen; omega) (by omega) ?_)
  intro v6 w6 hown6 hgrow
  have HB6 := hid (below_of_fr hb hgrow (show Above w.heap.size (fun k => k = w.heap.size) from fun k e => by rw [e]; exact Nat.le_refl _) hb.size)
  have HO6 := hid (show OwnSl w6 (Grow (fun k => k = w.heap.size) (w.alloc (.cells #[] 3)) w6) 1 v6 l.length (intVals l) from by simpa using hown6)
  have HA6 := hid (hgrow.mv.above (show Above w.heap.size (fun k => k = w.heap.size) from fun k e => by rw [e]; exact Nat.le_refl _) hb.size)
  clear hown6 hgrow
  go_wp2
  go_ret
  exact ⟨_, _, rfl, HO6.out, HA6.out, HB6.out⟩
end Go.Proofs.Ytpoaadjhaknhdaa

/- The waves in memory: a slice of slices of numbers, each in a block of its own. -/
namespace Go.Proofs.Ytpoaadjhaknhdaa
open Go Go.RowKit Go.Sort Go.Deep

theorem OwnSl.at_one {w : World} {o : Own} {size n : Nat} {v : Value} {xs : List Value} (h : OwnSl w o size v n xs) (hn : 0 < n) : ∃ g, o g ∧ g < w.heap.size ∧ OwnSl w (fun k => k = g) size v n xs := by
  obtain ⟨h1, h2⟩ := h
  rcases h2 with ⟨_, h0⟩ | ⟨g, off, c, e, hg, hl, h3⟩
  · omega
  · exact ⟨g, hg, hl, h1, .inr ⟨g, off, c, e, rfl, hl, h3⟩⟩
structure WavesAt (w0 w : World) (v : Value) (L : List (List Int)) (go : Nat) (gs : Nat → Nat) : Prop where
  out : ∃ us, OwnSl w (fun k => k = go) 1 v L.length us ∧ ∀ j (h : j < L.length), ∃ u, us[j]? = some u ∧ OwnSl w (fun k => k = gs j) 1 u L[j].length (intVals L[j]) ∧ 0 < L[j].length
  ne : ∀ j, j < L.length → gs j ≠ go
  ap : ∀ i j, i < L.length → j < L.length → i ≠ j → gs i ≠ gs j
  ab : ∀ j, j < L.length → w0.heap.size ≤ gs j ∧ gs j < w.heap.size
  abo : 0 < L.length → w0.heap.size ≤ go ∧ go < w.heap.size
  below : Below w0.heap.size w0 w
section
variable {w0 w w1 w2 : World} {v v' : Value} {L : List (List Int)} {go : Nat} {gs : Nat → Nat}
theorem WavesAt.nil (w : World) (go : Nat) (gs : Nat → Nat) : WavesAt w w (.slice none 0 0) [] go gs :=
  ⟨⟨[], OwnSl.nil _ _ _, (fun j h => by cases h)⟩, (fun j h => by cases h), (fun i j h => by cases h), (fun j h => by cases h), (fun h => by cases h), Below.refl _ _⟩
theorem WavesAt.then (h : WavesAt w0 w v L go gs) (hb : Below w.heap.size w w1) : WavesAt w0 w1 v L go gs := by
  obtain ⟨us, h1, h2⟩ := h.out
  exact ⟨⟨us, h1.below hb, fun j hj => by obtain ⟨u, hu, ho, hp⟩ := h2 j hj; exact ⟨u, hu, ho.below hb, hp⟩⟩, h.ne, h.ap, fun j hj => ⟨(h.ab j hj).1, Nat.lt_of_lt_of_le (h.ab j hj).2 hb.size⟩, fun h0 => ⟨(h.abo h0).1, Nat.lt_of_lt_of_le (h.abo h0).2 hb.size⟩, h.below.trans (hb.mono h.below.size)⟩
def upw {α : Type} (f : Nat → α) (i : Nat) (x : α) : Nat → α := fun j => if j = i then x else f j
theorem upw_same {α : Type} (f : Nat → α) (i : Nat) (x : α) : upw f i x i = x := if_pos rfl
theorem upw_ne {α : Type} (f : Nat → α) {i j : Nat} (x : α) (h : j ≠ i) : upw f i x j = f j := if_neg h
/-- One more wave: a new block b holds it; the slice of slices was appended to. -/
theorem WavesAt.add {b : Nat} {u : Value} {l : List Int} (h : WavesAt w0 w v L go gs) (hb : Below w.heap.size w w1) (hu : OwnSl w1 (fun k => k = b) 1 u l.length (intVals l)) (hl : 0 < l.length) (hbn : w.heap.size ≤ b) (hbl : b < w1.heap.size)
    {us : List Value} (hus : OwnSl w (fun k => k = go) 1 v L.length us ∧ ∀ j (h : j < L.length), ∃ u, us[j]? = some u ∧ OwnSl w (fun k => k = gs j) 1 u L[j].length (intVals L[j]) ∧ 0 < L[j].length)
    (o : Own) (ho : ∀ k, o k → k = go ∧ 0 < L.length) (happ : OwnSl w2 (Grow o w1 w2) 1 v' (L.length + 1) (us ++ [u])) (hf : Fr o w1 w2) : ∃ go', WavesAt w0 w2 v' (L ++ [l]) go' (upw gs L.length b) := by
  obtain ⟨go', hgo, hgl, hown⟩ := happ.at_one (by omega)
  have hul : us.length = L.length := by have := hus.1.1; omega
  have hgb : ∀ j, j < L.length → ¬ o (gs j) := fun j hj e => h.ne j hj (ho _ e).1
  have hob : ¬ o b := fun e => by have := ho _ e; have := (h.abo this.2).2; omega
  have hw1 : w.heap.size ≤ w1.heap.size := hb.size
  refine ⟨go', ⟨us ++ [u], by rw [List.length_append]; exact hown, fun j hj => ?_⟩, fun j hj => ?_, fun i j hi hj hij => ?_, fun j hj => ?_, fun _ => ⟨?_, hgl⟩, ?_⟩
  · by_cases e : j < L.length
    · obtain ⟨x, hx, hxo, hp⟩ := hus.2 j e
      refine ⟨x, by rw [List.getElem?_append_left (by omega)]; exact hx, ?_, by rw [List.getElem_append_left e]; exact hp⟩
      rw [List.getElem_append_left e, upw_ne _ _ (by omega)]
      exact (hxo.below hb).fr hf (fun k e1 e2 => by subst e1; exact hgb j e e2)
    · have e2 : j = L.length := by rw [List.length_append] at hj; simp at hj; omega
      subst e2
      refine ⟨u, by rw [List.getElem?_append_right (by omega), hul, Nat.sub_self]; rfl, ?_, by rw [List.getElem_append_right (Nat.le_refl _)]; simpa using hl⟩
      rw [List.getElem_append_right (Nat.le_refl _), upw_same]
      simp only [Nat.sub_self, List.getElem_cons_zero]
      exact hu.fr hf (fun k e1 e2 => by subst e1; exact hob e2)
  · by_cases e : j < L.length
    · rw [upw_ne _ _ (by omega)]
      rintro rfl
      rcases hgo with e1 | e1
      · exact hgb j e e1
      · have := (h.ab j e).2; omega
    · have e2 : j = L.length := by rw [List.length_append] at hj; simp at hj; omega
      subst e2
      rw [upw_same]
      rintro rfl
      rcases hgo with e1 | e1
      · exact hob e1
      · omega
  · have hlt : ∀ q, q < L.length → gs q ≠ b := fun q hq e => by have := (h.ab q hq).2; omega
    rw [List.length_append] at hi hj
    simp at hi hj
    by_cases e1 : i < L.length <;> by_cases e2 : j < L.length
    · rw [upw_ne _ _ (by omega), upw_ne _ _ (by omega)]; exact h.ap i j e1 e2 hij
    · have : j = L.length := by omega
      subst this
      rw [upw_ne _ _ (by omega), upw_same]; exact hlt i e1
    · have : i = L.length := by omega
      subst this
      rw [upw_same, upw_ne _ _ (by omega)]; exact (hlt j e2).symm
    · omega
  · by_cases e : j < L.length
    · rw [upw_ne _ _ (by omega)]
      exact ⟨(h.ab j e).1, by have := (h.ab j e).2; have := hf.size; omega⟩
    · have e2 : j = L.length := by rw [List.length_append] at hj; simp at hj; omega
      subst e2
      rw [upw_same]
      exact ⟨by have := h.below.size; omega, by have := hf.size; omega⟩
  · rcases hgo with e1 | e1
    · have := ho _ e1
      rw [this.1]
      exact (h.abo this.2).1
    · have := h.below.size; omega
  · exact (h.below.trans (hb.mono h.below.size)).trans (hf.below (fun k e => by have := ho _ e; rw [this.1]; exact (h.abo this.2).1) (by have := h.below.size; omega))
/-- A cell of a slice that is owned is stored into. -/
theorem OwnSl.store {g off n c : Nat} {xs : List Value} {o : Own} (h : OwnSl w o 1 (.slice (some ⟨g, off, none⟩) n c) n xs) (i : Nat) (hi : i < n) (u : Value) : OwnSl (w.setCell ⟨g, off + i, none⟩ u) o 1 (.slice (some ⟨g, off, none⟩) n c) n (xs.set i u) := by
  obtain ⟨h1, h2⟩ := h
  rcases h2 with ⟨e, _⟩ | ⟨g', off', c', e, hg, hl, hn, hc, hx, hs⟩
  · cases e
  · injection e with e1 _ e3
    injection e1 with e1
    injection e1 with e4 e5 _
    subst e3 e4 e5
    have hil : i < xs.length := by omega
    have hci := hx i xs[i] (List.getElem?_eq_getElem hil)
    refine ⟨by rw [List.length_set]; exact h1, .inr ⟨g, off, c, rfl, hg, by simpa using hl, hn, hc, fun j x hj => ?_, fun j hj => ?_⟩⟩
    · by_cases e : j = i
      · subst e
        rw [World.cell?_setCell_same _ _ _ hci]
        rw [List.getElem?_set_self hil] at hj
        exact hj
      · rw [List.getElem?_set_ne (fun e2 => e e2.symm)] at hj
        rw [World.cell?_setCell_other _ _ _ _ (by intro e2; injection e2 with _ e3; omega)]
        exact hx j x hj
    · obtain ⟨a, b⟩ := hs j hj
      rw [World.frozen?_setCell]
      refine ⟨?_, b⟩
      by_cases e : j = i
      · subst e
        rw [World.cell?_setCell_same _ _ _ hci]
        rfl
      · rw [World.cell?_setCell_other _ _ _ _ (by intro e2; injection e2 with _ e3; omega)]
        exact a
/-- A wave has grown. -/
theorem WavesAt.grow {off c i : Nat} {u' : Value} {d : Int} (h : WavesAt w0 w (.slice (some ⟨go, off, none⟩) L.length c) L go gs) (hi : i < L.length)
    (happ : OwnSl w1 (Grow (fun k => k = gs i) w w1) 1 u' (L[i].length + 1) (intVals L[i] ++ [.int .i64 d])) (hf : Fr (fun k => k = gs i) w w1) : ∃ gi, WavesAt w0 (w1.setCell ⟨go, off + i, none⟩ u') (.slice (some ⟨go, off, none⟩) L.length c) (L.set i (L[i] ++ [d])) go (upw gs i gi) := by
  obtain ⟨us, h1, h2⟩ := h.out
  obtain ⟨gi, hgi, hgl, hown⟩ := happ.at_one (by omega)
  have hul : us.length = L.length := by have := h1.1; omega
  have hgo := h.abo (by omega)
  have hng : gi ≠ go := by
    rintro rfl
    rcases hgi with e | e
    · exact h.ne i hi e.symm
    · omega
  have hgj : ∀ j, j < L.length → j ≠ i → gs j ≠ gi := fun j hj hji e => by
    rcases hgi with e1 | e1
    · exact h.ap j i hj hi hji (e.trans e1)
    · have := (h.ab j hj).2; omega
  have hfs : ∀ W : World, Fr (fun k => k = go) W (W.setCell ⟨go, off + i, none⟩ u') := fun W => (Fr.refl _ W).setCell _ _ (.inl rfl)
  have hls : (L.set i (L[i] ++ [d])).length = L.length := List.length_set
  refine ⟨gi, ⟨us.set i u', ?_, fun j hj => ?_⟩, fun j hj => ?_, fun a b ha hb hab => ?_, fun j hj => ?_, fun _ => ⟨hgo.1, by have := hf.size; simp; omega⟩, ?_⟩
  · rw [hls]
    exact (h1.fr hf (fun k e1 e2 => h.ne i hi (by rw [← e2, e1]))).store i hi u'
  · rw [hls] at hj
    by_cases e : j = i
    · subst e
      refine ⟨u', by rw [List.getElem?_set_self (by omega)], ?_, by simp⟩
      rw [upw_same]
      simp only [List.getElem_set_self, List.length_append, List.length_cons, List.length_nil]
      have e2 : intVals (L[j] ++ [d]) = intVals L[j] ++ [.int .i64 d] := by simp [intVals]
      rw [e2]
      exact hown.fr (hfs w1) (fun k e1 e2 => hng (by rw [← e1, e2]))
    · obtain ⟨x, hx, hxo, hp⟩ := h2 j hj
      refine ⟨x, by rw [List.getElem?_set_ne (fun e2 => e e2.symm)]; exact hx, ?_, by rw [List.getElem_set_ne (fun e2 => e e2.symm)]; exact hp⟩
      rw [List.getElem_set_ne (fun e2 => e e2.symm), upw_ne _ _ e]
      exact (hxo.fr hf (fun k e1 e2 => h.ap j i hj hi e (by rw [← e1, e2]))).fr (hfs w1) (fun k e1 e2 => h.ne j hj (by rw [← e1, e2]))
  · rw [hls] at hj
    by_cases e : j = i
    · subst e; rw [upw_same]; exact hng
    · rw [upw_ne _ _ e]; exact h.ne j hj
  · rw [hls] at ha hb
    by_cases e1 : a = i
    · subst e1
      rw [upw_same, upw_ne _ _ (Ne.symm hab)]
      exact (hgj b hb (Ne.symm hab)).symm
    · rw [upw_ne _ _ e1]
      by_cases e2 : b = i
      · subst e2; rw [upw_same]; exact hgj a ha e1
      · rw [upw_ne _ _ e2]; exact h.ap a b ha hb hab
  · rw [hls] at hj
    have hsz := hf.size
    by_cases e : j = i
    · subst e
      rw [upw_same]
      refine ⟨?_, by simpa using hgl⟩
      rcases hgi with e1 | e1
      · rw [e1]; exact (h.ab j hj).1
      · have := h.below.size; omega
    · rw [upw_ne _ _ e]
      exact ⟨(h.ab j hj).1, by have := (h.ab j hj).2; simp; omega⟩
  · have hb1 := h.below.trans (hf.below (fun k e => by rw [e]; exact (h.ab i hi).1) h.below.size)
    exact hb1.trans ((hfs w1).below (fun k e => by rw [e]; exact hgo.1) hb1.size)
end
end Go.Proofs.Ytpoaadjhaknhdaa
