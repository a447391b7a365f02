/- The matrix that Invert works on. -/
import Derived.Test.YtgeopgibjmhehaaV6
namespace Go.Proofs.Ytgeopgibjmhehaa
open Go Go.RowKit Go.Sort

abbrev ptrv (m b : Nat) : Value := .slice (some ⟨b, 0, none⟩) m m
/-- In block g lie slices to j rows, each in a block of its own, and then slices that are nil. -/
structure Mat (w : World) (B g n m j : Nat) (gs : List Nat) (ls : List (List B8)) : Prop where
  gl : gs.length = j
  ll : ls.length = j
  jn : j ≤ n
  ptr : ValsAt w g (gs.map (ptrv m) ++ List.replicate (n - j) (.slice none 0 0))
  row : ∀ i, i < j → ByteBox w (gs.getD i 0) (ls.getD i [])
  ne : ∀ i k, i < j → k < j → i ≠ k → gs.getD i 0 ≠ gs.getD k 0
  ng : ∀ i, i < j → gs.getD i 0 ≠ g
  wide : ∀ i, i < j → (ls.getD i []).length = m
  gB : B ≤ g
  rB : ∀ i, i < j → B ≤ gs.getD i 0
theorem getD_set {α : Type} (l : List α) (i k : Nat) (x d : α) (hi : i < l.length) : (l.set i x).getD k d = if k = i then x else l.getD k d := by
  simp only [List.getD_eq_getElem?_getD]
  by_cases h : k = i
  · subst h
    rw [List.getElem?_set_self hi, if_pos rfl]; rfl
  · rw [List.getElem?_set_ne (Ne.symm h), if_neg h]
theorem getD_append {α : Type} (l : List α) (x d : α) (k : Nat) : (l ++ [x]).getD k d = if k = l.length then x else l.getD k d := by
  simp only [List.getD_eq_getElem?_getD]
  by_cases h : k = l.length
  · subst h
    rw [List.getElem?_append_right (Nat.le_refl _), Nat.sub_self, if_pos rfl]; rfl
  · rw [if_neg h]
    by_cases h2 : k < l.length
    · rw [List.getElem?_append_left h2]
    · rw [List.getElem?_eq_none (by simp; omega), List.getElem?_eq_none (by omega)]
section
variable {w w' : World} {B g n m j : Nat} {gs : List Nat} {ls : List (List B8)}
theorem Mat.of_block (h : Mat w B g n m j gs ls) (hs : w.heap.size ≤ w'.heap.size) (hb : ∀ b, b < w.heap.size → (b = g ∨ ∃ i, i < j ∧ b = gs.getD i 0) → w'.heap[b]? = w.heap[b]?) : Mat w' B g n m j gs ls :=
  ⟨h.gl, h.ll, h.jn, h.ptr.of_block hs (hb g h.ptr.lt (.inl rfl)), fun i hi => ValsAt.of_block (h.row i hi) hs (hb _ (h.row i hi).lt (.inr ⟨i, hi, rfl⟩)), h.ne, h.ng, h.wide, h.gB, h.rB⟩
theorem Mat.below (h : Mat w B g n m j gs ls) (hb : Below w.heap.size w w') : Mat w' B g n m j gs ls := h.of_block hb.size (fun b hlt _ => hb.block b hlt)
theorem Mat.drewN (h : Mat w B g n m j gs ls) (k : Nat) : Mat (w.drewN k) B g n m j gs ls := h.of_block (Nat.le_refl _) (fun _ _ _ => rfl)
theorem Mat.cell (h : Mat w B g n m j gs ls) (i : Nat) (hi : i < j) : w.cell? ⟨g, i, none⟩ = some (ptrv m (gs.getD i 0)) := by
  have hl : i < (gs.map (ptrv m) ++ List.replicate (n - j) (Value.slice none 0 0)).length := by simp [h.gl]; omega
  rw [h.ptr.cell i hl, List.getElem_append_left (by simp [h.gl]; exact hi), List.getElem_map, List.getD_eq_getElem?_getD, List.getElem?_eq_getElem (by rw [h.gl]; exact hi)]
  rfl
theorem Mat.room (h : Mat w B g n m j gs ls) (i : Nat) (hi : i < n) : w.frozen? ⟨g, i, none⟩ = false ∧ ∃ old, w.cell? ⟨g, i, none⟩ = some old := by
  have hl : i < (gs.map (ptrv m) ++ List.replicate (n - j) (Value.slice none 0 0)).length := by have := h.jn; simp [h.gl]; omega
  exact ⟨h.ptr.free i hl, _, h.ptr.cell i hl⟩
theorem Mat.get (h : Mat w B g n m j gs ls) (i p : Nat) (hi : i < j) (hp : p < m) : w.cell? ⟨gs.getD i 0, p, none⟩ = some (b8 ((ls.getD i []).getD p 0#8)) ∧ w.frozen? ⟨gs.getD i 0, p, none⟩ = false := by
  have hw := h.wide i hi
  refine ⟨?_, ByteBox.room (h.row i hi) p (by omega)⟩
  rw [ByteBox.get (h.row i hi) p (by omega), List.getD_eq_getElem?_getD (l := ls.getD i []), List.getElem?_eq_getElem (by omega)]
  rfl
/-- A byte of a row is stored. -/
theorem Mat.put (h : Mat w B g n m j gs ls) (i p : Nat) (hi : i < j) (hp : p < m) (x : B8) : Mat (w.setCell ⟨gs.getD i 0, p, none⟩ (b8 x)) B g n m j gs (ls.set i ((ls.getD i []).set p x)) := by
  have hw := h.wide i hi
  refine ⟨h.gl, by rw [List.length_set]; exact h.ll, h.jn, h.ptr.other _ _ (h.ng i hi).symm, fun k hk => ?_, h.ne, h.ng, fun k hk => ?_, h.gB, h.rB⟩
  · rw [getD_set _ _ _ _ _ (by rw [h.ll]; exact hi)]
    by_cases e : k = i
    · subst e
      rw [if_pos rfl]
      exact ByteBox.put (h.row k hk) p (by omega) x
    · rw [if_neg e]
      exact ValsAt.other (h.row k hk) _ _ (h.ne k i hk hi e)
  · rw [getD_set _ _ _ _ _ (by rw [h.ll]; exact hi)]
    split
    · rw [List.length_set]; exact hw
    · exact h.wide k hk
/-- One row is written anew. -/
theorem Mat.redo (h : Mat w B g n m j gs ls) (i : Nat) (hi : i < j) {l : List B8} (hf : Fr (fun c => c = gs.getD i 0) w w') (hx : ByteBox w' (gs.getD i 0) l) (hl : l.length = m) : Mat w' B g n m j gs (ls.set i l) := by
  refine ⟨h.gl, by rw [List.length_set]; exact h.ll, h.jn, h.ptr.fr hf (h.ng i hi).symm, fun k hk => ?_, h.ne, h.ng, fun k hk => ?_, h.gB, h.rB⟩
  · rw [getD_set _ _ _ _ _ (by rw [h.ll]; exact hi)]
    by_cases e : k = i
    · subst e; rw [if_pos rfl]; exact hx
    · rw [if_neg e]; exact ValsAt.fr (h.row k hk) hf (h.ne k i hk hi e)
  · rw [getD_set _ _ _ _ _ (by rw [h.ll]; exact hi)]
    split
    · exact hl
    · exact h.wide k hk
/-- One more row, in a new block. -/
theorem Mat.add (h : Mat w B g n m j gs ls) {b : Nat} {l : List B8} (hj : j < n) (hx : ByteBox w b l) (hl : l.length = m) (hg : b ≠ g) (hn : ∀ i, i < j → gs.getD i 0 ≠ b) (hB : B ≤ b) : Mat (w.setCell ⟨g, j, none⟩ (ptrv m b)) B g n m (j + 1) (gs ++ [b]) (ls ++ [l]) := by
  refine ⟨by simp [h.gl], by simp [h.ll], by omega, ?_, fun i hi => ?_, fun i k hi hk hik => ?_, fun i hi => ?_, fun i hi => ?_, h.gB, fun i hi => ?_⟩
  · have := h.ptr.store j (ptrv m b) (by simp [h.gl]; omega)
    rw [List.set_append, if_neg (by simp [h.gl])] at this
    obtain ⟨r, hr⟩ : ∃ r, n - j = r + 1 := ⟨n - j - 1, by omega⟩
    rw [hr, List.replicate_succ, List.length_map, h.gl, Nat.sub_self, List.set_cons_zero] at this
    rw [List.map_append, List.append_assoc, show n - (j + 1) = r by omega]
    exact this
  · rw [getD_append, getD_append, h.gl, h.ll]
    by_cases e : i = j
    · rw [if_pos e, if_pos e]; exact hx.other _ _ hg
    · rw [if_neg e, if_neg e]; exact ValsAt.other (h.row i (by omega)) _ _ (h.ng i (by omega))
  · rw [getD_append, getD_append, h.gl]
    by_cases e : i = j
    · rw [if_pos e, if_neg (by omega)]; exact (hn k (by omega)).symm
    · rw [if_neg e]
      by_cases e2 : k = j
      · rw [if_pos e2]; exact hn i (by omega)
      · rw [if_neg e2]; exact h.ne i k (by omega) (by omega) hik
  · rw [getD_append, h.gl]
    split
    · exact hg
    · exact h.ng i (by omega)
  · rw [getD_append, h.ll]
    split
    · exact hl
    · exact h.wide i (by omega)
  · rw [getD_append, h.gl]
    split
    · exact hB
    · exact h.rB i (by omega)
def swapN (l : List Nat) (i j : Nat) : List Nat := (l.set i (l.getD j 0)).set j (l.getD i 0)
theorem swap_get {α : Type} (l : List α) (d : α) (i j k : Nat) (hi : i < l.length) (hj : j < l.length) : ((l.set i (l.getD j d)).set j (l.getD i d)).getD k d = if k = j then l.getD i d else if k = i then l.getD j d else l.getD k d := by
  rw [getD_set _ _ _ _ _ (by rw [List.length_set]; exact hj), getD_set _ _ _ _ _ hi]
/-- Two rows are exchanged. -/
theorem Mat.swap (h : Mat w B g n m n gs ls) (t k : Nat) (ht : t < n) (hk : k < n) : Mat ((w.setCell ⟨g, t, none⟩ (ptrv m (gs.getD k 0))).setCell ⟨g, k, none⟩ (ptrv m (gs.getD t 0))) B g n m n (swapN gs t k) (swap ls t k) := by
  have hgl := h.gl
  have hll := h.ll
  have hG : ∀ i, (swapN gs t k).getD i 0 = if i = k then gs.getD t 0 else if i = t then gs.getD k 0 else gs.getD i 0 := fun i => swap_get gs 0 t k i (by omega) (by omega)
  have hL : ∀ i, (Proofs.Ytgeopgibjmhehaa.swap ls t k).getD i [] = if i = k then ls.getD t [] else if i = t then ls.getD k [] else ls.getD i [] := fun i => swap_get ls [] t k i (by omega) (by omega)
  refine ⟨by simp [swapN, hgl], by simp [Proofs.Ytgeopgibjmhehaa.swap, hll], Nat.le_refl _, ?_, fun i hi => ?_, fun i q hi hq hiq => ?_, fun i hi => ?_, fun i hi => ?_, h.gB, fun i hi => ?_⟩
  · have h1 := (h.ptr.store t (ptrv m (gs.getD k 0)) (by simp [hgl]; omega)).store k (ptrv m (gs.getD t 0)) (by simp [hgl]; omega)
    have hp := h.ptr
    simp only [Nat.sub_self, List.replicate_zero, List.append_nil] at h1 ⊢
    rw [show (swapN gs t k).map (ptrv m) = ((gs.map (ptrv m)).set t (ptrv m (gs.getD k 0))).set k (ptrv m (gs.getD t 0)) by simp [swapN, List.map_set]]
    exact h1
  · rw [hG, hL]
    have hr : ∀ q, q < n → ByteBox ((w.setCell ⟨g, t, none⟩ (ptrv m (gs.getD k 0))).setCell ⟨g, k, none⟩ (ptrv m (gs.getD t 0))) (gs.getD q 0) (ls.getD q []) := fun q hq => ValsAt.other (ValsAt.other (h.row q hq) _ _ (h.ng q hq)) _ _ (h.ng q hq)
    split
    · exact hr t ht
    · split
      · exact hr k hk
      · exact hr i hi
  · rw [hG, hG]
    have := fun a b ha hb hab => h.ne a b ha hb hab
    split <;> split <;> (try split) <;> (try split) <;> first | (exfalso; omega) | (apply h.ne <;> omega)
  · rw [hG]
    split
    · exact h.ng t ht
    · split
      · exact h.ng k hk
      · exact h.ng i hi
  · rw [hL]
    split
    · exact h.wide t ht
    · split
      · exact h.wide k hk
      · exact h.wide i hi
  · rw [hG]
    split
    · exact h.rB t ht
    · split
      · exact h.rB k hk
      · exact h.rB i hi
end
end Go.Proofs.Ytgeopgibjmhehaa
