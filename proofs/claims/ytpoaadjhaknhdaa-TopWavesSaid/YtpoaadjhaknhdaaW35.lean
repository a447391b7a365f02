/- The maker: rows that are appended to, and what holds of the fleet while it is made. -/
import Derived.Test.YtpoaadjhaknhdaaW34
import Derived.Test.YtpoaadjhaknhdaaW21
import Derived.Test.YtpoaadjhaknhdaaME
namespace Go.Proofs.Ytpoaadjhaknhdaa
open Go Go.RowKit Go.Sort Go.Deep

theorem flat_at {s : Nat} : ∀ (L : List (List Value)), (∀ r ∈ L, r.length = s) → ∀ (j : Nat) (hj : j < L.length) (q : Nat), q < s → L.flatten[j * s + q]? = (L[j])[q]?
  | [], _, j, hj, _, _ => by simp at hj
  | r :: L, h, 0, _, q, hq => by
    rw [List.flatten_cons, Nat.zero_mul, Nat.zero_add, List.getElem?_append_left (by rw [h r (by simp)]; exact hq)]
    rfl
  | r :: L, h, j + 1, hj, q, hq => by
    have hr := h r (by simp)
    have hm : (j + 1) * s + q = s + (j * s + q) := by rw [Nat.succ_mul]; omega
    rw [List.flatten_cons, hm, List.getElem?_append_right (by omega), hr, Nat.add_sub_cancel_left]
    exact flat_at L (fun x hx => h x (by simp [hx])) j (by simpa using hj) q hq
/-- Rows that are owned: the cells of each element. -/
structure RowsOwn (w : World) (o : Own) (size : Nat) (v : Value) (L : List (List Value)) : Prop where
  own : OwnSl w o size v L.length L.flatten
  each : ∀ r ∈ L, r.length = size
section
variable {w w' : World} {o o2 : Own} {size : Nat} {v : Value} {L : List (List Value)}
theorem RowsOwn.nil (w : World) (o : Own) (size : Nat) : RowsOwn w o size (.slice none 0 0) [] := ⟨OwnSl.nil _ _ _, fun r h => by cases h⟩
theorem RowsOwn.fr (h : RowsOwn w o size v L) (hf : Fr o2 w w') (ha : Apart o o2) : RowsOwn w' o size v L := ⟨h.own.fr hf ha, h.each⟩
theorem RowsOwn.below (h : RowsOwn w o size v L) (hb : Below w.heap.size w w') : RowsOwn w' o size v L := ⟨h.own.below hb, h.each⟩
theorem RowsOwn.snoc {w6 : World} {v6 : Value} {r : List Value} (h : RowsOwn w o size v L) (hr : r.length = size) (h6 : OwnSl w6 o2 size v6 (L.length + 1) (L.flatten ++ r)) : RowsOwn w6 o2 size v6 (L ++ [r]) := by
  refine ⟨?_, fun x hx => ?_⟩
  · rw [List.length_append, List.flatten_append]
    simpa using h6
  · rcases List.mem_append.1 hx with e | e
    · exact h.each x e
    · simp at e; rw [e]; exact hr
theorem RowsOwn.new (w : World) (t : TypeId) (r : List Value) : RowsOwn (w.alloc (.cells r.toArray t)) (Just w.heap.size) r.length (.slice (some ⟨w.heap.size, 0, none⟩) 1 1) [r] := by
  refine ⟨⟨by simp, .inr ⟨w.heap.size, 0, 1, rfl, rfl, by simp, Nat.le_refl _, by unfold maxLen; omega, fun j u hu => ?_, fun j hj => ⟨?_, ?_⟩⟩⟩, fun x hx => by simp at hx; rw [hx]⟩
  · rw [Nat.zero_add, cell_block (heap_alloc_new w _) j, List.getElem?_toArray]
    simpa using hu
  · rw [Nat.zero_add, cell_block (heap_alloc_new w _) j, List.getElem?_toArray, List.getElem?_eq_getElem (by omega)]
    rfl
  · exact frozen_of_row _ _ _ _ t (heap_alloc_new w _)
theorem RowsOwn.at_ (h : RowsOwn w o size v L) : ∃ A c, v = .slice A L.length c ∧ L.length ≤ c ∧ c ≤ maxLen ∧ (0 < L.length → ∃ g off, A = some ⟨g, off, none⟩ ∧ o g ∧ g < w.heap.size ∧ ∀ j (hj : j < L.length), CellsIn w g (off + j * size) L[j]) := by
  rcases Nat.eq_zero_or_pos L.length with h0 | h0
  · obtain ⟨A, c, e, hc⟩ := h.own.form
    rcases h.own.2 with ⟨rfl, _⟩ | ⟨g, off, c, rfl, _, _, hnc, hcm, _⟩
    · exact ⟨none, 0, by rw [h0], by omega, Nat.zero_le _, fun h => by omega⟩
    · exact ⟨_, c, rfl, hnc, hcm, fun h => by omega⟩
  · obtain ⟨g, off, c, rfl, ho, hg, hnc, hcm, hx, _⟩ := h.own.some_ h0
    refine ⟨_, c, rfl, hnc, hcm, fun _ => ⟨g, off, rfl, ho, hg, fun j hj q u hu => ?_⟩⟩
    have hq : q < size := by
      have := (List.getElem?_eq_some_iff.1 hu).1
      rwa [h.each _ (List.getElem_mem hj)] at this
    have := hx (j * size + q) u ((flat_at L h.each j hj q hq).trans hu)
    rw [Nat.add_assoc]
    exact this
end
/-- What a row of domains (0), drives (1), policies (2), volumes (3) is. -/
def QQ (B : Nat) (M : Own) (w : World) : Nat → Nat → List Value → Prop
  | 0, j, r => ∃ nm lv pa up u v a b, r = [.string nm, .int .i64 lv, .int .i64 pa, .int .i64 up, .bool false, u, v] ∧ Sup M w (fun w' => One w' u a ∧ One w' v b) ∧ 0 < b ∧ -1000 ≤ lv ∧ lv ≤ 1000 ∧ (j = 0 → nm = ⟨#[]⟩ ∧ lv = 0 ∧ pa = -1 ∧ up = 0)
  | 1, _, r => ∃ nm x y, r = [.string nm, .int .i64 x, .int .i64 y]
  | 2, _, r => ∃ (nm : ByteArray) (K Mm : Nat) (Q s0 s1 s2 s3 s4 : Int) (vm vr u1 v1 u2 v2 : Value), r = (polAgg nm K Mm Q s0 s1 s2 s3 s4 vm vr u1 v1 u2 v2).toList ∧ 1 ≤ K ∧ K ≤ 2 ∧ Mm ≤ 2 ∧ Sup M w (fun w' => PolOk w' K Mm Q s0 s1 s2 s3 s4 vm vr u1 v1 u2 v2)
  | _, _, r => ∃ (nm : ByteArray) (p : Nat), r = [.string nm, .int .i64 (p : Int)] ∧ p < B
def szz : Nat → Nat
  | 0 => 7
  | 1 => 3
  | 2 => 17
  | _ => 2
theorem QQ.mv {B i j : Nat} {M M' : Own} {w w' : World} {r : List Value} (h : QQ B M w i j r) (hm : Mv M w M' w') : QQ B M' w' i j r := by
  match i, h with
  | 0, h =>
    obtain ⟨nm, lv, pa, up, u, v, a, b, h1, h2, h3⟩ := h
    exact ⟨nm, lv, pa, up, u, v, a, b, h1, h2.mv hm, h3⟩
  | 1, h => exact h
  | 2, h =>
    obtain ⟨nm, K, Mm, Q, s0, s1, s2, s3, s4, vm, vr, u1, v1, u2, v2, h1, h2, h3, h4, h5⟩ := h
    exact ⟨nm, K, Mm, Q, s0, s1, s2, s3, s4, vm, vr, u1, v1, u2, v2, h1, h2, h3, h4, h5.mv hm⟩
  | i + 3, h => exact h
/-- One of the four lists. -/
def Comp (B : Nat) (M : Own) (w : World) (i : Nat) (o : Own) (v : Value) (n : Nat) : Prop := ∃ L, L.length = n ∧ RowsOwn w o (szz i) v L ∧ ∀ j (h : j < L.length), QQ B M w i j L[j]
theorem Comp.mv {B i n : Nat} {M M' o o2 : Own} {w w' : World} {v : Value} (h : Comp B M w i o v n) (hm : Mv M w M' w') (hf : Fr o2 w w') (ha : Apart o o2) : Comp B M' w' i o v n := by
  obtain ⟨L, h1, h2, h3⟩ := h
  exact ⟨L, h1, h2.fr hf ha, fun j hj => (h3 j hj).mv hm⟩
theorem Comp.form {B i n : Nat} {M o : Own} {w : World} {v : Value} (h : Comp B M w i o v n) : ∃ A c, v = .slice A n c ∧ n ≤ c ∧ c ≤ maxLen := by
  obtain ⟨L, rfl, h2, _⟩ := h
  obtain ⟨A, c, e, h3, h4, _⟩ := h2.at_
  exact ⟨A, c, e, h3, h4⟩
def upd {α : Type} (f : Nat → α) (i : Nat) (x : α) : Nat → α := fun j => if j = i then x else f j
theorem upd_same {α : Type} (f : Nat → α) (i : Nat) (x : α) : upd f i x i = x := if_pos rfl
theorem upd_ne {α : Type} (f : Nat → α) (i : Nat) (x : α) {j : Nat} (h : j ≠ i) : upd f i x j = f j := if_neg h
abbrev zeroFleet : Array Value := fleetArr 0 (.slice none 0 0) (.slice none 0 0) (.slice none 0 0) (.slice none 0 0) (.slice none 0 0) (.slice none 0 0)
/-- The fleet while it is made: tape at gt, result at gr, the fleet's row at gf. -/
structure Mk (S : World → Prop) (B gt gr gf : Nat) (w0 w : World) (I : Nat) (ex : Int) (vl vm : Value) (v : Nat → Value) (n : Nat → Nat) (M : Own) (o : Nat → Own) : Prop where
  tape : TapeAt w gt I
  res : w.heap[gr]? = some (.cells zeroFleet 33 (0, 0))
  row : w.heap[gf]? = some (.cells (fleetArr ex vl vm (v 0) (v 1) (v 2) (v 3)) 33 (0, 0))
  comp : ∀ i, i < 4 → Comp B M w i (o i) (v i) (n i)
  apart : ∀ i j, i < 4 → j < 4 → i ≠ j → Apart (o i) (o j)
  sub : ∀ i, i < 4 → ∀ k, o i k → M k ∧ gf < k
  mem : M gt ∧ M gr ∧ M gf
  under : Under w M
  above : Above gt M
  froz : Sup M w S
  order : gt < gr ∧ gr < gf
  base : Below gt w0 w
section
variable {S : World → Prop} {B gt gr gf I : Nat} {w0 w w' : World} {ex : Int} {vl vm : Value} {v : Nat → Value} {n : Nat → Nat} {M M' : Own} {o : Nat → Own} {o2 : Own}
/-- A step that turns other blocks than the lists' and the fleet's. -/
theorem Mk.other {I' : Nat} (h : Mk S B gt gr gf w0 w I ex vl vm v n M o) (hm : Mv M w M' w') (hM : ∀ k, M k → M' k) (hu : Under w' M') (hf : Fr o2 w w') (h2 : ∀ k, o2 k → M k) (ha : ∀ i, i < 4 → Apart (o i) o2) (hr : ¬ o2 gr) (hg : ¬ o2 gf) (ht : TapeAt w' gt I') : Mk S B gt gr gf w0 w' I' ex vl vm v n M' o where
  tape := ht
  res := (hf.block gr (h.under _ h.mem.2.1) hr).trans h.res
  row := (hf.block gf (h.under _ h.mem.2.2) hg).trans h.row
  comp := fun i hi => (h.comp i hi).mv hm hf (ha i hi)
  apart := h.apart
  sub := fun i hi k hk => ⟨hM k (h.sub i hi k hk).1, (h.sub i hi k hk).2⟩
  mem := ⟨hM _ h.mem.1, hM _ h.mem.2.1, hM _ h.mem.2.2⟩
  under := hu
  above := fun k hk => by
    rcases hm.ext k hk with e | e
    · exact h.above k e
    · exact Nat.le_of_lt (Nat.lt_of_lt_of_le (h.under _ h.mem.1) e)
  froz := h.froz.mv hm
  order := h.order
  base := below_of_fr h.base hf (fun k hk => h.above k (h2 k hk)) (Nat.le_of_lt (h.under _ h.mem.1))
theorem Mk.next (h : Mk S B gt gr gf w0 w I ex vl vm v n M o) (ht : TapeAt w' gt (I + 1)) (hf : Fr (Just gt) w w') : Mk S B gt gr gf w0 w' (I + 1) ex vl vm v n M o := by
  have hs : ∀ k, Just gt k → M k := fun k e => by rw [show k = gt from e]; exact h.mem.1
  refine h.other ⟨hf.mono hs, fun _ e => .inl e⟩ (fun _ e => e) (h.under.mv hf.size) hf hs (fun i hi k a b => ?_) (fun e => ?_) (fun e => ?_) ht
  · have := (h.sub i hi k a).2
    have := h.order
    have : k = gt := b
    omega
  · have := h.order
    have : gr = gt := e
    omega
  · have := h.order
    have : gf = gt := e
    omega
theorem Mk.below (h : Mk S B gt gr gf w0 w I ex vl vm v n M o) (hb : Below w.heap.size w w') : Mk S B gt gr gf w0 w' I ex vl vm v n M o :=
  h.other (.ofBelow hb) (fun _ e => e) (h.under.mv hb.size) (o2 := NoOwn) (.ofBelow hb) (fun _ e => e.elim) (fun _ _ _ _ b => b) (fun e => e) (fun e => e) (h.tape.below hb)
/-- One list has got a row more. -/
theorem Mk.add (i : Nat) (hi : i < 4) {v' : Value} {n' : Nat} {oi : Own} (h : Mk S B gt gr gf w0 w I ex vl vm v n M o) (hf : Fr (Or (Just gf) (o i)) w w') (he : ∀ k, oi k → o i k ∨ w.heap.size ≤ k) (hu : Under w' oi)
    (hrow : w'.heap[gf]? = some (.cells (fleetArr ex vl vm (upd v i v' 0) (upd v i v' 1) (upd v i v' 2) (upd v i v' 3)) 33 (0, 0))) (hc : Comp B (Or M oi) w' i oi v' n') :
    Mk S B gt gr gf w0 w' I ex vl vm (upd v i v') (upd n i n') (Or M oi) (upd o i oi) := by
  have hs : ∀ k, Or (Just gf) (o i) k → M k := fun k e => by
    rcases e with e | e
    · rw [show k = gf from e]; exact h.mem.2.2
    · exact (h.sub i hi k e).1
  have hm : Mv M w (Or M oi) w' := ⟨hf.mono hs, fun k e => by
    rcases e with e | e
    · exact .inl e
    · rcases he k e with e | e
      · exact .inl (h.sub i hi k e).1
      · exact .inr e⟩
  have hgf : gf < w.heap.size := h.under _ h.mem.2.2
  have hgt : ∀ k, oi k → gf < k := fun k e => by
    rcases he k e with e | e
    · exact (h.sub i hi k e).2
    · omega
  have hap : ∀ j, j < 4 → j ≠ i → Apart (o j) (Or (Just gf) (o i)) := fun j hj hji k a b => by
    rcases b with b | b
    · have := (h.sub j hj k a).2
      have : k = gf := b
      omega
    · exact h.apart j i hj hi hji k a b
  have hoi : ∀ j, j < 4 → j ≠ i → Apart (o j) oi := fun j hj hji k a b => by
    rcases he k b with e | e
    · exact h.apart j i hj hi hji k a e
    · have := h.under k (h.sub j hj k a).1
      omega
  refine ⟨?_, ?_, hrow, fun j hj => ?_, fun j k hj hk hjk => ?_, fun j hj k hk => ?_, ⟨.inl h.mem.1, .inl h.mem.2.1, .inl h.mem.2.2⟩, (h.under.mv hf.size).or hu, ?_, h.froz.mv hm, h.order, ?_⟩
  · refine h.tape.fr hf (fun k e => ?_)
    have := h.order
    rcases e with e | e
    · have : k = gf := e
      omega
    · have := (h.sub i hi k e).2
      omega
  · refine (hf.block gr (h.under _ h.mem.2.1) (fun e => ?_)).trans h.res
    have := h.order
    rcases e with e | e
    · have : gr = gf := e
      omega
    · have := (h.sub i hi _ e).2
      omega
  · by_cases hji : j = i
    · subst hji
      rw [upd_same, upd_same, upd_same]
      exact hc
    · rw [upd_ne _ _ _ hji, upd_ne _ _ _ hji, upd_ne _ _ _ hji]
      exact (h.comp j hj).mv hm hf (hap j hj hji)
  · by_cases hji : j = i
    · subst hji
      rw [upd_same, upd_ne _ _ _ (Ne.symm hjk)]
      exact (hoi k hk (Ne.symm hjk)).symm
    · rw [upd_ne _ _ _ hji]
      by_cases hki : k = i
      · subst hki
        rw [upd_same]
        exact hoi j hj hji
      · rw [upd_ne _ _ _ hki]
        exact h.apart j k hj hk hjk
  · by_cases hji : j = i
    · subst hji
      rw [upd_same] at hk
      exact ⟨.inr hk, hgt k hk⟩
    · rw [upd_ne _ _ _ hji] at hk
      exact ⟨.inl (h.sub j hj k hk).1, (h.sub j hj k hk).2⟩
  · refine h.above.or (fun k hk => ?_)
    have := hgt k hk
    have := h.order
    omega
  · refine below_of_fr h.base hf (fun k hk => h.above k (hs k hk)) ?_
    exact Nat.le_of_lt (h.under _ h.mem.1)
end
end Go.Proofs.Ytpoaadjhaknhdaa
