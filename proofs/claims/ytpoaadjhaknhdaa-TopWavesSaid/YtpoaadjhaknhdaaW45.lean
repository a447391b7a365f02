/- The copies that a row of the layout names; the waves as rows. -/
import Derived.Test.YtpoaadjhaknhdaaW30
import Derived.Test.YtpoaadjhaknhdaaMD
namespace Go.Proofs.Ytpoaadjhaknhdaa
open Go Go.RowKit Go.Sort Go.Deep

/-- The copies that the first i entries of a row name. -/
def cops (row : List Int) : Nat → List (Nat × Int)
  | 0 => []
  | i + 1 => cops row i ++ if 0 ≤ row.getD i (-1) then [(i, row.getD i (-1))] else []
theorem cops_succ (row : List Int) (i : Nat) (h : i < row.length) : cops row (i + 1) = cops row i ++ if 0 ≤ row[i] then [(i, row[i])] else [] := by
  show cops row i ++ (if 0 ≤ row.getD i (-1) then [(i, row.getD i (-1))] else []) = _
  rw [List.getD_eq_getElem?_getD, List.getElem?_eq_getElem h]
  rfl
theorem cops_lt (row : List Int) : ∀ i, ∀ x ∈ cops row i, x.1 < i
  | 0, x, hx => by cases hx
  | i + 1, x, hx => by
    rcases List.mem_append.1 hx with e | e
    · have := cops_lt row i x e
      omega
    · split at e
      · simp at e
        subst e
        exact Nat.lt_succ_self i
      · cases e
theorem cops_len (row : List Int) : ∀ i, (cops row i).length ≤ i
  | 0 => Nat.le_refl _
  | i + 1 => by
    have := cops_len row i
    show (cops row i ++ (if 0 ≤ row.getD i (-1) then [(i, row.getD i (-1))] else [])).length ≤ i + 1
    rw [List.length_append]
    split <;> simp <;> omega
theorem cops_nodup (row : List Int) : ∀ i, ((cops row i).map (·.1)).Nodup
  | 0 => List.nodup_nil
  | i + 1 => by
    show ((cops row i ++ (if 0 ≤ row.getD i (-1) then [(i, row.getD i (-1))] else [])).map (·.1)).Nodup
    rw [List.map_append, List.nodup_append]
    refine ⟨cops_nodup row i, by split <;> simp, fun a ha b hb e => ?_⟩
    obtain ⟨x, hx, rfl⟩ := List.mem_map.1 ha
    have h1 := cops_lt row i x hx
    split at hb
    · simp at hb
      omega
    · cases hb
theorem take_snoc {α : Type} (l : List α) (i : Nat) (h : i < l.length) : l.take (i + 1) = l.take i ++ [l[i]] := List.take_succ_eq_append_getElem h
/-- The copies left are the row's other entries. -/
theorem left_len (row D : List Int) : ∀ i, i ≤ row.length → (leftOf (cops row i) D).length = othOf (row.take i) D
  | 0, _ => rfl
  | i + 1, h => by
    have ih := left_len row D i (by omega)
    rw [cops_succ row i (by omega), take_snoc row i (by omega), oth_snoc]
    generalize row[i] = d at *
    by_cases h0 : 0 ≤ d
    · rw [if_pos h0, left_snoc, List.length_append, ih]
      by_cases h1 : d ∈ D <;> simp [h0, h1]
    · rw [if_neg h0, List.append_nil, ih]
      simp [h0]
theorem hit_len (row D : List Int) : ∀ i, i ≤ row.length → (leftOf (cops row i) D).length < (cops row i).length → hitOf (row.take i) D = true
  | 0, _, h => by simp [cops] at h
  | i + 1, h, hl => by
    rw [cops_succ row i (by omega)] at hl
    rw [take_snoc row i (by omega), hit_snoc]
    have ih := hit_len row D i (by omega)
    generalize row[i] = d at *
    by_cases h0 : 0 ≤ d
    · rw [if_pos h0, left_snoc, List.length_append, List.length_append] at hl
      by_cases h1 : d ∈ D
      · simp [h0, h1]
      · simp [h1] at hl
        simp [ih (by omega)]
    · rw [if_neg h0, List.append_nil] at hl
      simp [ih hl]
theorem WavesAt.rows {w0 w : World} {v : Value} {L : List (List Int)} {go : Nat} {gs : Nat → Nat} (h : WavesAt w0 w v L go gs) : RowsAt w v L := by
  obtain ⟨us, h1, h2⟩ := h.out
  rcases Nat.eq_zero_or_pos L.length with h0 | h0
  · rcases h1.2 with ⟨rfl, _⟩ | ⟨g, off, c, rfl, _, _, hnc, hc, _⟩
    · exact ⟨none, 0, by rw [h0], by omega, Nat.zero_le _, fun h => by omega⟩
    · exact ⟨_, c, rfl, hnc, hc, fun h => by omega⟩
  · obtain ⟨g, off, c, rfl, _, hg, hnc, hc, hx, _⟩ := h1.some_ h0
    exact ⟨_, c, rfl, hnc, hc, fun _ => ⟨g, off, rfl, hg, fun j hj => by
      obtain ⟨u, e, hs, _⟩ := h2 j hj
      exact ⟨u, hx j u e, OwnSl.list hs⟩⟩⟩
theorem RowsAt.get {w : World} {v : Value} {rows : List (List Int)} (h : RowsAt w v rows) (j : Nat) (hj : j < rows.length) : ∃ g off c, v = .slice (some ⟨g, off, none⟩) rows.length c ∧ g < w.heap.size ∧ ∃ u, w.cell? ⟨g, off + j, none⟩ = some u ∧ ListAt w u rows[j] := by
  obtain ⟨A, c, e, _, _, h3⟩ := h
  obtain ⟨g, off, rfl, hg, h4⟩ := h3 (by omega)
  exact ⟨g, off, c, e, hg, h4 j hj⟩
end Go.Proofs.Ytpoaadjhaknhdaa
