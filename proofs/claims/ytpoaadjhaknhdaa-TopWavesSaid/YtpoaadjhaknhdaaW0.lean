/- The base of TopWaves: slices that came in; slices owned; the sanity check. -/
import Derived.Test.YtpoaadjhaknhdaaEFr
import Derived.Test.YtpoaadjhaknhdaaSum
import Derived.Test.YtpoaadjhaknhdaaWrap4
import Derived.Deep.Slices
import Derived.Deep.Fields
import Derived.ChangeSame
import Derived.OwnWalk
import Derived.LoopN
import Derived.Deep.DeepCutAuto
import Derived.Deep.CutBlock
import Derived.Deep.DrawnRows
import Derived.Carry
namespace Go.Proofs.Ytpoaadjhaknhdaa
open Go Go.RowKit Go.Sort Go.ChangeShapes Go.WideShapes Go.Deep

/-- The slice v, which came in, holds the cells xs, n elements of some cells each. -/
def ArgSl (w : World) (size : Nat) (v : Value) (n : Nat) (xs : List Value) : Prop :=
  xs.length = n * size ∧ n ≤ maxLen ∧ ∃ A c, v = .slice A n c ∧ (0 < n → ∃ b off, A = some ⟨b, off, none⟩ ∧ b < w.heap.size ∧ ∀ j u, xs[j]? = some u → w.cell? ⟨b, off + j, none⟩ = some u)
theorem ArgSl.below {w w' : World} {size n : Nat} {v : Value} {xs : List Value} {B : Nat} (h : ArgSl w size v n xs) (hb : Below B w w') (hB : w.heap.size ≤ B) : ArgSl w' size v n xs := by
  obtain ⟨h1, h2, A, c, h3, h4⟩ := h
  refine ⟨h1, h2, A, c, h3, fun hn => ?_⟩
  obtain ⟨b, off, e, hl, hc⟩ := h4 hn
  exact ⟨b, off, e, Nat.lt_of_lt_of_le hl hb.size, fun j u hu => (hb.cell (p := ⟨b, off + j, none⟩) (Nat.lt_of_lt_of_le hl hB)).trans (hc j u hu)⟩
/-- The cells of the k-th of equal pieces. -/
theorem flat_get {α : Type} (f : α → List Value) (size : Nat) (hf : ∀ a, (f a).length = size) : ∀ (l : List α) (k : Nat) (h : k < l.length) (j : Nat), j < size → (l.flatMap f)[k * size + j]? = (f l[k])[j]?
  | a :: r, 0, _, j, hj => by
    rw [List.flatMap_cons, List.getElem?_append_left (by rw [hf]; omega)]
    simp
  | a :: r, k + 1, h, j, hj => by
    have h1 : (k + 1) * size = k * size + size := Nat.succ_mul k size
    rw [List.flatMap_cons, List.getElem?_append_right (by rw [hf]; omega), hf]
    have := flat_get f size hf r k (by simpa using h) j hj
    rw [show (k + 1) * size + j - size = k * size + j by omega, this]
    rfl
theorem flat_length {α : Type} (f : α → List Value) (size : Nat) (hf : ∀ a, (f a).length = size) : ∀ l : List α, (l.flatMap f).length = l.length * size
  | [] => by simp
  | a :: r => by rw [List.flatMap_cons, List.length_append, flat_length f size hf r, hf, List.length_cons, Nat.succ_mul]; omega
section
variable {H : Type} {enc : TypeId × Value → H} {P : Program} {w : World} {base : Nat} {spare : Nat → Bool} {held : Bool}
theorem open_rows {α : Type} (f : α → List Value) (size : Nat) (hf : ∀ a, (f a).length = size) (hs : 0 < size) {r : Reach} {b0 : Nat} {t e : TypeId} {v : Value} {d : DataW H} {ps : List MemPlace} (ht : P.underlying t = some (.slice e)) (hC : P.cellsOf e = size)
    (hone : ∀ (fuel : Nat) (cs : List Value) (x : DataW H × List MemPlace), DataW.trod enc P w base spare held fuel e cs = some x → ∃ a, cs = f a)
    (hv : Value.okWide P w r b0 t v) (h : DataW.Trod enc P w base spare held t v d ps) : ∃ l : List α, ArgSl w size v l.length (l.flatMap f) := by
  obtain ⟨A, len, cap, rfl⟩ := okWide_slice ht hv
  obtain ⟨fuel, hk⟩ := h
  rcases open_slice ht hk with ⟨h0, _⟩ | ⟨a, len', cap', m, n, D, Pl, hcs, _, hl, hm, hmm, _, hi⟩
  · simp [Value.cells] at h0
    obtain ⟨rfl, rfl, rfl⟩ := h0
    exact ⟨[], by simp, by simp, none, 0, rfl, fun h => by simp at h⟩
  · simp [Value.cells] at hcs
    obtain ⟨rfl, rfl, rfl⟩ := hcs
    have hlm : len ≤ m := by rw [hmm]; split <;> omega
    have hex : ∀ i, i < len → ∃ x : α, ∀ j, j < size → w.cell? ((a.add (i * size)).add j) = (f x)[j]? := fun i hilt => by
      obtain ⟨cs', hc, htr⟩ := hi i (by omega)
      obtain ⟨x, rfl⟩ := hone _ _ _ htr
      rw [hC] at hc
      obtain ⟨_, _, hat⟩ := World.cells?_some hc
      exact ⟨x, fun j hj => hat j hj⟩
    have hall : ∀ n, n ≤ len → ∃ l : List α, l.length = n ∧ ∀ i (h : i < l.length) j, j < size → w.cell? ((a.add (i * size)).add j) = (f l[i])[j]? := by
      intro n
      induction n with
      | zero => intro _; exact ⟨[], rfl, fun i h => by simp at h⟩
      | succ n ih =>
        intro hn
        obtain ⟨l, hl1, hl2⟩ := ih (by omega)
        obtain ⟨x, hx⟩ := hex n (by omega)
        refine ⟨l ++ [x], by simp [hl1], fun i h j hj => ?_⟩
        by_cases hi : i < l.length
        · rw [List.getElem_append_left hi]; exact hl2 i hi j hj
        · have : i = n := by simp at h; omega
          subst this
          rw [List.getElem_append_right (by omega)]
          simp only [hl1, Nat.sub_self, List.getElem_cons_zero]
          exact hx j hj
    obtain ⟨l, hl1, hl2⟩ := hall len (Nat.le_refl _)
    refine ⟨l, flat_length f size hf l, by omega, some a, cap, by rw [hl1], fun hn => ?_⟩
    have h00 := hl2 0 hn 0 hs
    have hsm : (f l[0])[0]? = some ((f l[0])[0]'(by rw [hf]; exact hs)) := List.getElem?_eq_getElem _
    rw [hsm] at h00
    have e0 : (a.add (0 * size)).add 0 = a := by simp [Addr.add]
    rw [e0] at h00
    have hspot : a.spot = none := by
      unfold World.cell? at h00
      split at h00
      · split at h00
        · cases h00
        · rename_i hh
          cases hsp : a.spot
          · rfl
          · rw [hsp] at hh; simp at hh
      · cases h00
    obtain ⟨ab, ao, asp⟩ := a
    dsimp only at hspot
    subst hspot
    refine ⟨ab, ao, rfl, World.block_lt_of_cell? w _ h00, fun j u hu => ?_⟩
    have hj : j < l.length * size := by
      have := (List.getElem?_eq_some_iff.1 hu).1
      rwa [flat_length f size hf] at this
    have hq : j / size < l.length := Nat.div_lt_of_lt_mul (by rwa [Nat.mul_comm] at hj)
    have hr : j % size < size := Nat.mod_lt _ hs
    have hdm : j / size * size + j % size = j := by rw [Nat.mul_comm]; exact Nat.div_add_mod j size
    have h1 := flat_get f size hf l (j / size) hq (j % size) hr
    rw [hdm, hu] at h1
    have h2 := hl2 (j / size) hq (j % size) hr
    rw [← h1, Addr.add_lit, Addr.add_lit, Nat.add_assoc, hdm] at h2
    exact h2
end
def intCell (i : Int) : List Value := [.int .i64 i]
theorem intCell_length (i : Int) : (intCell i).length = 1 := rfl
abbrev IntsAt (w : World) (v : Value) (l : List Int) : Prop := ArgSl w 1 v l.length (l.flatMap intCell)
theorem IntsAt.cell {w : World} {b off : Nat} {l : List Int} (h : ∀ j u, (l.flatMap intCell)[j]? = some u → w.cell? ⟨b, off + j, none⟩ = some u) (k : Nat) (hk : k < l.length) : w.cell? ⟨b, off + k, none⟩ = some (.int .i64 l[k]) := by
  have := flat_get intCell 1 intCell_length l k hk 0 (by omega)
  rw [Nat.mul_one, Nat.add_zero] at this
  exact h _ _ this
section
variable {H : Type} {enc : TypeId × Value → H} {w : World} {base : Nat} {spare : Nat → Bool} {held : Bool}
theorem int_one (fuel : Nat) (cs : List Value) (x : DataW H × List MemPlace) (h : DataW.trod enc Try.prog w base spare held fuel 3 cs = some x) : ∃ a, cs = intCell a := by
  obtain ⟨k, u0, _, _⟩ := DataW.trod_int Try.underlying3 h
  exact ⟨k, u0⟩
set_option maxRecDepth 100000 in
theorem open_intsl {r : Reach} {b0 : Nat} {v : Value} {d : DataW H} {ps : List MemPlace} (hv : Value.okWide Try.prog w r b0 22 v) (h : DataW.Trod enc Try.prog w base spare held 22 v d ps) : ∃ l, IntsAt w v l :=
  open_rows intCell 1 intCell_length (by omega) Try.underlying22 (by kernel_rfl) int_one hv h
end
theorem below_of_fr {w0 w1 w2 : World} {B : Nat} {o : Own} (h : Below B w0 w1) (k : Fr o w1 w2) (ho : Above B o) (hB : B ≤ w1.heap.size) : Below B w0 w2 := h.trans (k.below ho hB)
theorem above_new {w w' : World} {B : Nat} (hB : B ≤ w.heap.size) : Above B (Grow NoOwn w w') := fun k e => by
  rcases e with e | e
  · exact e.elim
  · omega

theorem runsum_any (w : World) : Calls Try.prog 8 #[] w fun e w' => e = .returned (.bool true) ∧ w = w' := by
  go_enter Try.func8, Try.ntmps8
  go_wp2_with fail
  refine (sum_prog ⟨#[]⟩ _ (by unfold maxLen; decide)).mono ?_
  rintro e w4 ⟨rfl, rfl⟩
  rw [show u32 (crc ({ data := #[] } : ByteArray).data.toList) = .int .u32 4294967295 from rfl]
  go_wp2
  go_ret
  exact ⟨rfl, rfl⟩
theorem below_drew (w : World) (n : Nat) : Below w.heap.size w (w.drewN n) := ⟨rfl, rfl, rfl, Nat.le_refl _, fun _ _ => rfl⟩
end Go.Proofs.Ytpoaadjhaknhdaa
