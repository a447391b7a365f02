/- append once more: a slice that begins at its block's head stays so; rows of sectors out of it. -/
import Derived.Test.YtegekmdechcikaaERef3
namespace Go.Proofs.Ytegekmdechcikaa
open Go Go.RowKit Go.Sort

/-- The slice, if not nil, begins at its block's head. -/
def Off0 (v : Value) : Prop := ∀ (ad : Addr) n c, v = .slice (some ad) n c → ad.off = 0
theorem off0_nil : Off0 (.slice none 0 0) := fun _ _ _ e => by cases e
theorem off0_row {w : World} {base : Nat} {e : TypeId} {size : Nat} {v : Value} {n : Nat} {xs : List Value} (h : w.ownsRow base e size v n xs) : Off0 v := by
  intro ad n' c' hv
  rcases h.2 with ⟨h2, _⟩ | ⟨g, cap, cur, h2, _⟩
  · rw [h2] at hv; cases hv
  · rw [h2] at hv
    injection hv with e1 _ _
    injection e1 with e1
    rw [← e1]
/-- append. -/
theorem run_append_sl0 {P : Program} (w : World) (t ty e : TypeId) (i : TypeInfo) (z : Value) (size bytes : Nat) (ht : P.underlying t = some (.slice e)) (hi : P.info? e = some i) (hz : i.zero = some z)
    (hsize : i.size = size) (hby : i.bytes = bytes) (hzs : z.cells.size = size) (hsz : 0 < size) {o : Own} {v x : Value} {n m : Nat} {xs news : List Value}
    (hown : OwnSl w o size v n xs) (hsrc : Src w size x m news) (h1 : ∀ u ∈ news, u.oneCell' = true) (h63 : n + m ≤ maxLen) (hbytes : (n + m) * bytes ≤ 140737488355328) :
    ∃ v' w', (Builtin.append_ #[t, t] ty #[v, x]).run P w = .ok v' w' ∧ OwnSl w' (Grow o w w') size v' (n + m) (xs ++ news) ∧ Fr o w w' ∧ (Off0 v → Off0 v') := by
  obtain ⟨hl, hsrc⟩ := hsrc
  rcases hsrc with ⟨rfl, rfl⟩ | ⟨ad, c, rfl, hnews⟩
  · obtain rfl : news = [] := List.eq_nil_of_length_eq_zero (by simpa using hl)
    refine ⟨v, w, ?_, by simpa using hown.mono fun _ e => .inl e, Fr.refl _ _, fun h => h⟩
    obtain ⟨A, cap, rfl, hc⟩ := hown.form
    cases A with
    | none =>
      rcases hown.2 with ⟨h, _⟩ | ⟨g, off, cap', h, _⟩
      · injection h with _ h2 h3; subst h2; subst h3
        simp [Builtin.append_, run_underlying ht, sizeOf, typeInfo, hi, Builtin.lenOf, Builtin.firstCells]
      · cases h
    | some A => simp [Builtin.append_, run_underlying ht, sizeOf, typeInfo, hi, Builtin.lenOf, Builtin.firstCells, hc, storeCells]
  · have grown : ∀ {v' w'}, w'.ownsRow w.heap.size e size v' (n + m) (xs ++ news) → w.grownBy w' none → OwnSl w' (Grow o w w') size v' (n + m) (xs ++ news) ∧ Fr o w w' ∧ (Off0 v → Off0 v') := fun {v' w'} r1 r2 => by
      refine ⟨?_, .of_grown r2 (fun _ h => by cases h), fun _ => off0_row r1⟩
      have h2 := OwnSl.of_row (o := fun k => w.heap.size ≤ k) r1 (fun k hk => hk)
      obtain ⟨e1, e2⟩ := h2
      refine ⟨e1, ?_⟩
      rcases e2 with e2 | ⟨g, off, cap, a, b, c, d⟩
      · exact .inl e2
      · exact .inr ⟨g, off, cap, a, .inr ⟨b, c⟩, c, d⟩
    rcases hown.2 with ⟨rfl, rfl⟩ | ⟨g, off, cap, rfl, hog, hg, hnc, hcm, hcell, hfree⟩
    · have hx : xs = [] := List.eq_nil_of_length_eq_zero (by simpa using hown.1)
      subst hx
      obtain ⟨v', w', hrun, r1, r2, _⟩ := run_append_own (P := P) w w.heap.size t ty e i z size bytes ht hi hz hsize hby hzs hsz (.slice none 0 0) 0 [] (World.ownsRow_nil w _ e size) ad m c news hl hnews h1 h63 hbytes (Nat.le_refl _)
      exact ⟨v', w', hrun, grown r1 r2⟩
    · by_cases hroom : n + m ≤ cap
      · subst hsize
        have hm : news.length ≤ (cap - n) * i.size := by rw [hl]; exact Nat.mul_le_mul_right _ (by omega)
        have hmul : n * i.size + (cap - n) * i.size = cap * i.size := by rw [← Nat.add_mul]; congr 1; omega
        have hsp : ∀ j, j < news.length → (w.cell? ⟨g, off + n * i.size + j, none⟩).isSome = true ∧ w.frozen? ⟨g, off + n * i.size + j, none⟩ = false := fun j hj => by
          rw [Nat.add_assoc]
          exact hfree (n * i.size + j) (by omega)
        refine ⟨_, _, run_append_room_cells (P := P) w t ty e i ht hi g off n cap ad m c news hl hnews h1 hroom (fun j hj => (hsp j hj).1) (fun j hj => (hsp j hj).2), ⟨by rw [List.length_append, hown.1, hl, Nat.add_mul], .inr ⟨g, off, cap, rfl, .inl hog, by rw [size_setCells]; exact hg, hroom, hcm, ?_, ?_⟩⟩, ?_⟩
        · intro j u hu
          by_cases hj : j < xs.length
          · rw [cell_setCells_out _ _ _ _ _ (.inr (.inl (show off + j < off + n * i.size by rw [hown.1] at hj; omega)))]
            exact hcell j u (by rwa [List.getElem?_append_left hj] at hu)
          · rw [List.getElem?_append_right (by omega)] at hu
            have := cells_setCells_new g news (off + n * i.size) w (fun j hj => (hsp j hj).1) (j - xs.length) u hu
            rwa [show off + n * i.size + (j - xs.length) = off + j by have := hown.1; omega] at this
        · intro j hj
          rw [frozen_setCells]
          exact ⟨isSome_setCells _ _ _ _ _ (hfree j hj).1, (hfree j hj).2⟩
        · exact ⟨Fr.setCells (.inl hog) _ _ _ (Fr.refl _ _), fun h => by
            intro ad n' c' e
            injection e with e1 _ _
            exact h _ n cap (by rw [e1])⟩
      · obtain ⟨v', w', hrun, r1, r2⟩ := run_append_arg_grows (P := P) w t ty e i z size bytes ht hi hz hsize hby hzs hsz ⟨g, off, none⟩ n cap xs hown.1 (fun j u hj => by rw [Addr.add_lit]; exact hcell j u hj) ad m c news hl hnews (by omega) h63 hbytes
        exact ⟨v', w', hrun, grown r1 r2⟩
theorem wp_append_sl0 {P : Program} {w : World} {op : Oper} {a : Act} {K : Act → World → Prop} {Q : Exit → Act → World → Prop} (s y : Operand) (t : TypeId)
    (ho : op.op = .call { callee := .builtin .append, args := #[s, y], argTypes := #[t, t] })
    (e : TypeId) (i : TypeInfo) (z : Value) (size bytes : Nat) (ht : P.underlying t = some (.slice e)) (hi : P.info? e = some i) (hz : i.zero = some z)
    (hsize : i.size = size) (hby : i.bytes = bytes) (hzs : z.cells.size = size) (hsz : 0 < size) (o : Own) (v x : Value) (n m : Nat) (xs news : List Value) (hs : a.eval s = v) (hx : a.eval y = x)
    (hown : OwnSl w o size v n xs) (hsrc : Src w size x m news) (h1 : ∀ u ∈ news, u.oneCell' = true) (h63 : n + m ≤ maxLen) (hbytes : (n + m) * bytes ≤ 140737488355328)
    (h : ∀ v' w', OwnSl w' (Grow o w w') size v' (n + m) (xs ++ news) → Fr o w w' → (Off0 v → Off0 v') → K (a.put op.dst v') w') : op.wp P a w K Q := by
  obtain ⟨v', w', hr, h2, h3, h4⟩ := run_append_sl0 (P := P) w t op.type e i z size bytes ht hi hz hsize hby hzs hsz hown hsrc h1 h63 hbytes
  unfold Oper.wp execOp
  simp only [ho, resolve, invoke, builtin, Sem.run_bind, Sem.run_pure, Result.andThen_ok, List.map_toArray, List.map_cons, List.map_nil, hs, hx, hr]
  exact h v' w' h2 h3 h4
theorem wpList_append_sl0 {P : Program} {w : World} {ops : Array Oper} {rest : List Oper} {op : Oper} {a : Act} {Q : Exit → Act → World → Prop} (hgd : op.guard = none) (s y : Operand) (t : TypeId)
    (ho : op.op = .call { callee := .builtin .append, args := #[s, y], argTypes := #[t, t] })
    (e : TypeId) (i : TypeInfo) (z : Value) (size bytes : Nat) (ht : P.underlying t = some (.slice e)) (hi : P.info? e = some i) (hz : i.zero = some z)
    (hsize : i.size = size) (hby : i.bytes = bytes) (hzs : z.cells.size = size) (hsz : 0 < size) (o : Own) (v x : Value) (n m : Nat) (xs news : List Value) (hs : a.eval s = v) (hx : a.eval y = x)
    (hown : OwnSl w o size v n xs) (hsrc : Src w size x m news) (h1 : ∀ u ∈ news, u.oneCell' = true) (h63 : n + m ≤ maxLen) (hbytes : (n + m) * bytes ≤ 140737488355328)
    (h : ∀ v' w', OwnSl w' (Grow o w w') size v' (n + m) (xs ++ news) → Fr o w w' → (Off0 v → Off0 v') → wpList P ops Q rest (a.put op.dst v') w') : wpList P ops Q (op :: rest) a w :=
  wpList_plain hgd fun _ hK => wp_append_sl0 s y t ho e i z size bytes ht hi hz hsize hby hzs hsz o v x n m xs news hs hx hown hsrc h1 h63 hbytes fun v' w' h2 h3 h4 => hK _ _ (h v' w' h2 h3 h4)
theorem step_append_sl0 {P : Program} {w : World} {ops : Array Oper} {op : Oper} {a : Act} {K : Act → World → Prop} {Q : Exit → Act → World → Prop} {E : Prop} (hgd : op.guard = none) (s y : Operand) (t : TypeId)
    (ho : op.op = .call { callee := .builtin .append, args := #[s, y], argTypes := #[t, t] })
    (e : TypeId) (i : TypeInfo) (z : Value) (size bytes : Nat) (ht : P.underlying t = some (.slice e)) (hi : P.info? e = some i) (hz : i.zero = some z)
    (hsize : i.size = size) (hby : i.bytes = bytes) (hzs : z.cells.size = size) (hsz : 0 < size) (o : Own) (v x : Value) (n m : Nat) (xs news : List Value) (hs : a.eval s = v) (hx : a.eval y = x)
    (hown : OwnSl w o size v n xs) (hsrc : Src w size x m news) (h1 : ∀ u ∈ news, u.oneCell' = true) (h63 : n + m ≤ maxLen) (hbytes : (n + m) * bytes ≤ 140737488355328)
    (h : ∀ v' w', OwnSl w' (Grow o w w') size v' (n + m) (xs ++ news) → Fr o w w' → (Off0 v → Off0 v') → K (a.put op.dst v') w') : if Region.wanted op (yielded ops a.tmps) = true then Oper.wp P op a w K Q else E := by
  have hw : Region.wanted op (yielded ops a.tmps) = true := by simp [Region.wanted, hgd]
  rw [if_pos hw]
  exact wp_append_sl0 s y t ho e i z size bytes ht hi hz hsize hby hzs hsz o v x n m xs news hs hx hown hsrc h1 h63 hbytes h

/-- The cells of a row of sectors. -/
def secCells (l : List Sec) : List Value := l.flatMap Sec.cells
theorem secCells_length (l : List Sec) : (secCells l).length = l.length * 3 := by
  induction l with
  | nil => rfl
  | cons f l ih => unfold secCells at *; simp [Sec.cells, ih]; omega
theorem secCells_get : ∀ (l : List Sec) (i : Nat) (h : i < l.length) (j : Nat) (v : Value), l[i].cells[j]? = some v → (secCells l)[i * 3 + j]? = some v
  | s :: r, 0, _, j, v, hv => by
    have hj : j < 3 := by have := (List.getElem?_eq_some_iff.1 hv).1; simpa [Sec.cells] using this
    show (s.cells ++ secCells r)[0 * 3 + j]? = some v
    rw [List.getElem?_append_left (by simp [Sec.cells]; omega)]
    simpa using hv
  | s :: r, i + 1, h, j, v, hv => by
    show (s.cells ++ secCells r)[(i + 1) * 3 + j]? = some v
    rw [List.getElem?_append_right (by simp [Sec.cells]; omega)]
    have := secCells_get r i (Nat.lt_of_succ_lt_succ h) j v hv
    rw [← this]
    congr 1
    simp [Sec.cells]; omega
theorem secs_of_own {w : World} {p : Own} {b c : Nat} {l : List Sec} (h : OwnSl w p 3 (.slice (some ⟨b, 0, none⟩) l.length c) l.length (secCells l)) : SecsAt w b l := by
  rcases h.2 with ⟨h2, _⟩ | ⟨g, off, cap, e, hp, hg, hn, hc, hcell, hfree⟩
  · cases h2
  · injection e with e1 _ e3
    injection e1 with e1
    injection e1 with e1 e2
    subst e1; subst e2; subst e3
    refine ⟨hg, fun i hi j v hv => ?_, fun i hi j hj => ?_⟩
    · have := hcell (i * 3 + j) v (secCells_get l i hi j v hv)
      rwa [Nat.zero_add] at this
    · have := hfree (i * 3 + j) (by omega)
      rwa [Nat.zero_add] at this
theorem src_of_secs {w : World} {b c : Nat} {l : List Sec} (h : SecsAt w b l) : Src w 3 (.slice (some ⟨b, 0, none⟩) l.length c) l.length (secCells l) := by
  refine ⟨secCells_length l, .inr ⟨_, c, rfl, fun j u hu => ?_⟩⟩
  rw [Addr.add_lit, Nat.zero_add]
  have hj : j < l.length * 3 := by
    have := (List.getElem?_eq_some_iff.1 hu).1
    rwa [secCells_length] at this
  have hi : j / 3 < l.length := by omega
  have hr : j % 3 < 3 := Nat.mod_lt _ (by omega)
  have he : j / 3 * 3 + j % 3 = j := by omega
  obtain ⟨v, hv⟩ : ∃ v, l[j / 3].cells[j % 3]? = some v := ⟨_, List.getElem?_eq_getElem (show j % 3 < (Sec.cells l[j / 3]).length from hr)⟩
  have h1 := secCells_get l _ hi _ v hv
  rw [he, hu] at h1
  have h2 := h.range _ hi _ v hv
  rw [he] at h2
  rw [h2, ← h1]
end Go.Proofs.Ytegekmdechcikaa
