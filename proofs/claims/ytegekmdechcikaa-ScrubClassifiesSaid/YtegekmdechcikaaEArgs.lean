/- Arguments that are slices of structs: opened to lists. -/
import Derived.Test.YtegekmdechcikaaEPair3
import Derived.Test.YtegekmdechcikaaWrap4
import Derived.Deep.Slices
import Derived.Deep.Fields
import Derived.ChangeSame
namespace Go.Proofs.Ytegekmdechcikaa
open Go Go.RowKit Go.Sort Go.ChangeShapes Go.WideShapes Go.Deep

/-- The slice v, which came in, holds the cells xs, n elements of some cells each. -/
def ArgSl (w : World) (size : Nat) (v : Value) (n : Nat) (xs : List Value) : Prop :=
  xs.length = n * size ∧ n ≤ maxLen ∧ ∃ A c, v = .slice A n c ∧ (0 < n → ∃ b off, A = some ⟨b, off, none⟩ ∧ b < w.heap.size ∧ ∀ j u, xs[j]? = some u → w.cell? ⟨b, off + j, none⟩ = some u)
theorem ArgSl.below {w w' : World} {size n : Nat} {v : Value} {xs : List Value} {B : Nat} (h : ArgSl w size v n xs) (hb : Below B w w') (hB : w.heap.size ≤ B) : ArgSl w' size v n xs := by
  obtain ⟨h1, h2, A, c, h3, h4⟩ := h
  refine ⟨h1, h2, A, c, h3, fun hn => ?_⟩
  obtain ⟨b, off, e, hl, hc⟩ := h4 hn
  exact ⟨b, off, e, Nat.lt_of_lt_of_le hl hb.size, fun j u hu => (hb.cell (p := ⟨b, off + j, none⟩) (Nat.lt_of_lt_of_le hl hB)).trans (hc j u hu)⟩
/-- The cells of the k-th of equal pieces. -/
theorem flat_get {α : Type} (f : α → List Value) (size : Nat) (hf : ∀ a, (f a).length = size) : ∀ (l : List α) (k : Nat) (h : k < l.length) (j : Nat), j < size → (l.flatMap f)[k * size + j]? = (f l[k])[j]?
  | a :: r, 0, _, j, hj => by
    rw [List.flatMap_cons, List.getElem?_append_left (by rw [hf]; omega)]
    simp
  | a :: r, k + 1, h, j, hj => by
    have h1 : (k + 1) * size = k * size + size := Nat.succ_mul k size
    rw [List.flatMap_cons, List.getElem?_append_right (by rw [hf]; omega), hf]
    have := flat_get f size hf r k (by simpa using h) j hj
    rw [show (k + 1) * size + j - size = k * size + j by omega, this]
    rfl
theorem flat_length {α : Type} (f : α → List Value) (size : Nat) (hf : ∀ a, (f a).length = size) : ∀ l : List α, (l.flatMap f).length = l.length * size
  | [] => by simp
  | a :: r => by rw [List.flatMap_cons, List.length_append, flat_length f size hf r, hf, List.length_cons, Nat.succ_mul]; omega
section
variable {H : Type} {enc : TypeId × Value → H} {P : Program} {w : World} {base : Nat} {spare : Nat → Bool} {held : Bool}
theorem open_rows {α : Type} (f : α → List Value) (size : Nat) (hf : ∀ a, (f a).length = size) (hs : 0 < size) {r : Reach} {b0 : Nat} {t e : TypeId} {v : Value} {d : DataW H} {ps : List MemPlace} (ht : P.underlying t = some (.slice e)) (hC : P.cellsOf e = size)
    (hone : ∀ (fuel : Nat) (cs : List Value) (x : DataW H × List MemPlace), DataW.trod enc P w base spare held fuel e cs = some x → ∃ a, cs = f a)
    (hv : Value.okWide P w r b0 t v) (h : DataW.Trod enc P w base spare held t v d ps) : ∃ l : List α, ArgSl w size v l.length (l.flatMap f) := by
  obtain ⟨A, len, cap, rfl⟩ := okWide_slice ht hv
  obtain ⟨fuel, hk⟩ := h
  rcases open_slice ht hk with ⟨h0, _⟩ | ⟨a, len', cap', m, n, D, Pl, hcs, _, hl, hm, hmm, _, hi⟩
  · simp [Value.cells] at h0
    obtain ⟨rfl, rfl, rfl⟩ := h0
    exact ⟨[], by simp, by simp, none, 0, rfl, fun h => by simp at h⟩
  · simp [Value.cells] at hcs
    obtain ⟨rfl, rfl, rfl⟩ := hcs
    have hlm : len ≤ m := by rw [hmm]; split <;> omega
    have hex : ∀ i, i < len → ∃ x : α, ∀ j, j < size → w.cell? ((a.add (i * size)).add j) = (f x)[j]? := fun i hilt => by
      obtain ⟨cs', hc, htr⟩ := hi i (by omega)
      obtain ⟨x, rfl⟩ := hone _ _ _ htr
      rw [hC] at hc
      obtain ⟨_, _, hat⟩ := World.cells?_some hc
      exact ⟨x, fun j hj => hat j hj⟩
    have hall : ∀ n, n ≤ len → ∃ l : List α, l.length = n ∧ ∀ i (h : i < l.length) j, j < size → w.cell? ((a.add (i * size)).add j) = (f l[i])[j]? := by
      intro n
      induction n with
      | zero => intro _; exact ⟨[], rfl, fun i h => by simp at h⟩
      | succ n ih =>
        intro hn
        obtain ⟨l, hl1, hl2⟩ := ih (by omega)
        obtain ⟨x, hx⟩ := hex n (by omega)
        refine ⟨l ++ [x], by simp [hl1], fun i h j hj => ?_⟩
        by_cases hi : i < l.length
        · rw [List.getElem_append_left hi]; exact hl2 i hi j hj
        · have : i = n := by simp at h; omega
          subst this
          rw [List.getElem_append_right (by omega)]
          simp only [hl1, Nat.sub_self, List.getElem_cons_zero]
          exact hx j hj
    obtain ⟨l, hl1, hl2⟩ := hall len (Nat.le_refl _)
    refine ⟨l, flat_length f size hf l, by omega, some a, cap, by rw [hl1], fun hn => ?_⟩
    have h00 := hl2 0 hn 0 hs
    have hsm : (f l[0])[0]? = some ((f l[0])[0]'(by rw [hf]; exact hs)) := List.getElem?_eq_getElem _
    rw [hsm] at h00
    have e0 : (a.add (0 * size)).add 0 = a := by simp [Addr.add]
    rw [e0] at h00
    have hspot : a.spot = none := by
      unfold World.cell? at h00
      split at h00
      · split at h00
        · cases h00
        · rename_i hh
          cases hsp : a.spot
          · rfl
          · rw [hsp] at hh; simp at hh
      · cases h00
    obtain ⟨ab, ao, asp⟩ := a
    dsimp only at hspot
    subst hspot
    refine ⟨ab, ao, rfl, World.block_lt_of_cell? w _ h00, fun j u hu => ?_⟩
    have hj : j < l.length * size := by
      have := (List.getElem?_eq_some_iff.1 hu).1
      rwa [flat_length f size hf] at this
    have hq : j / size < l.length := Nat.div_lt_of_lt_mul (by rwa [Nat.mul_comm] at hj)
    have hr : j % size < size := Nat.mod_lt _ hs
    have hdm : j / size * size + j % size = j := by rw [Nat.mul_comm]; exact Nat.div_add_mod j size
    have h1 := flat_get f size hf l (j / size) hq (j % size) hr
    rw [hdm, hu] at h1
    have h2 := hl2 (j / size) hq (j % size) hr
    rw [← h1, Addr.add_lit, Addr.add_lit, Nat.add_assoc, hdm] at h2
    exact h2
end

theorem oprCells_length (x : Opr) : (oprCells x).length = 9 := rfl
/-- Calls that came in. -/
abbrev OpsAt (w : World) (v : Value) (l : List Opr) : Prop := ArgSl w 9 v l.length (l.flatMap oprCells)
theorem OpsAt.cells {w : World} {b off : Nat} {l : List Opr} (h : ∀ j u, (l.flatMap oprCells)[j]? = some u → w.cell? ⟨b, off + j, none⟩ = some u) (k : Nat) (hk : k < l.length) :
    w.cell? ⟨b, off + k * 9, none⟩ = some (.int .i64 l[k].kind) ∧ w.cell? ⟨b, off + k * 9 + 1, none⟩ = some (.int .i64 l[k].term) ∧ w.cell? ⟨b, off + k * 9 + 2, none⟩ = some (.int .i64 l[k].slot) ∧ w.cell? ⟨b, off + k * 9 + 3, none⟩ = some (.string l[k].data) ∧
    w.cell? ⟨b, off + k * 9 + 4, none⟩ = some (.int .i64 l[k].fault.kind) ∧ w.cell? ⟨b, off + k * 9 + 5, none⟩ = some (.int .i64 l[k].fault.slot) ∧ w.cell? ⟨b, off + k * 9 + 6, none⟩ = some (.int .i64 l[k].fault.bit) ∧ w.cell? ⟨b, off + k * 9 + 7, none⟩ = some (.int .i64 l[k].fault.mask) ∧ w.cell? ⟨b, off + k * 9 + 8, none⟩ = some (.int .i64 l[k].fault.dest) := by
  have g : ∀ j v, j < 9 → (oprCells l[k])[j]? = some v → w.cell? ⟨b, off + k * 9 + j, none⟩ = some v := fun j v hj hv => by
    rw [Nat.add_assoc]
    exact h _ _ ((flat_get oprCells 9 oprCells_length l k hk j hj).trans hv)
  exact ⟨g 0 _ (by omega) rfl, g 1 _ (by omega) rfl, g 2 _ (by omega) rfl, g 3 _ (by omega) rfl, g 4 _ (by omega) rfl, g 5 _ (by omega) rfl, g 6 _ (by omega) rfl, g 7 _ (by omega) rfl, g 8 _ (by omega) rfl⟩
section
variable {H : Type} {enc : TypeId × Value → H} {w : World} {base : Nat} {spare : Nat → Bool} {held : Bool}
set_option maxRecDepth 100000 in
theorem op_one (fuel : Nat) (cs : List Value) (x : DataW H × List MemPlace) (h : DataW.trod enc Try.prog w base spare held fuel 80 cs = some x) : ∃ a, cs = oprCells a := by
  obtain ⟨xs, n, _, _, hlen, hxl, hfield⟩ := DataW.trod_struct Try.underlying80 h
  rw [show Try.prog.cellsOf 80 = 9 by kernel_rfl] at hlen
  match cs, hlen with
  | [a0, a1, a2, a3, a4, a5, a6, a7, a8], _ =>
    have hx : ∀ j, j < 5 → ∃ y, xs[j]? = some y := fun j hj => ⟨_, List.getElem?_eq_getElem (by rw [hxl]; exact hj)⟩
    have c1 : Try.prog.cellsOf 3 = 1 := by kernel_rfl
    have c2 : Try.prog.cellsOf 9 = 1 := by kernel_rfl
    have c5 : Try.prog.cellsOf 43 = 5 := by kernel_rfl
    obtain ⟨y0, e0⟩ := hx 0 (by omega)
    obtain ⟨y1, e1⟩ := hx 1 (by omega)
    obtain ⟨y2, e2⟩ := hx 2 (by omega)
    obtain ⟨y3, e3⟩ := hx 3 (by omega)
    obtain ⟨y4, e4⟩ := hx 4 (by omega)
    have z0 := (hfield 0 _ rfl).trans e0
    have z1 := (hfield 1 _ rfl).trans e1
    have z2 := (hfield 2 _ rfl).trans e2
    have z3 := (hfield 3 _ rfl).trans e3
    have z4 := (hfield 4 _ rfl).trans e4
    change DataW.trod enc Try.prog w base spare held n 3 ((List.drop 0 [a0, a1, a2, a3, a4, a5, a6, a7, a8]).take (Try.prog.cellsOf 3)) = some y0 at z0
    change DataW.trod enc Try.prog w base spare held n 3 ((List.drop 1 [a0, a1, a2, a3, a4, a5, a6, a7, a8]).take (Try.prog.cellsOf 3)) = some y1 at z1
    change DataW.trod enc Try.prog w base spare held n 3 ((List.drop 2 [a0, a1, a2, a3, a4, a5, a6, a7, a8]).take (Try.prog.cellsOf 3)) = some y2 at z2
    change DataW.trod enc Try.prog w base spare held n 9 ((List.drop 3 [a0, a1, a2, a3, a4, a5, a6, a7, a8]).take (Try.prog.cellsOf 9)) = some y3 at z3
    change DataW.trod enc Try.prog w base spare held n 43 ((List.drop 4 [a0, a1, a2, a3, a4, a5, a6, a7, a8]).take (Try.prog.cellsOf 43)) = some y4 at z4
    rw [c1] at z0 z1 z2
    rw [c2] at z3
    rw [c5] at z4
    obtain ⟨k, u0, _, _⟩ := DataW.trod_int Try.underlying3 z0
    obtain ⟨t, u1, _, _⟩ := DataW.trod_int Try.underlying3 z1
    obtain ⟨s, u2, _, _⟩ := DataW.trod_int Try.underlying3 z2
    obtain ⟨d, u3, _, _⟩ := DataW.trod_string Try.underlying9 z3
    obtain ⟨ys, m, _, _, _, hyl, hff⟩ := DataW.trod_struct Try.underlying43 z4
    have hy : ∀ j, j < 5 → ∃ y, ys[j]? = some y := fun j hj => ⟨_, List.getElem?_eq_getElem (by rw [hyl]; exact hj)⟩
    obtain ⟨y0, e0⟩ := hy 0 (by omega)
    obtain ⟨y1, e1⟩ := hy 1 (by omega)
    obtain ⟨y2, e2⟩ := hy 2 (by omega)
    obtain ⟨y3, e3⟩ := hy 3 (by omega)
    obtain ⟨y4, e4⟩ := hy 4 (by omega)
    have w0 := (hff 0 _ rfl).trans e0
    have w1 := (hff 1 _ rfl).trans e1
    have w2 := (hff 2 _ rfl).trans e2
    have w3 := (hff 3 _ rfl).trans e3
    have w4 := (hff 4 _ rfl).trans e4
    change DataW.trod enc Try.prog w base spare held m 3 ((List.drop 0 [a4, a5, a6, a7, a8]).take (Try.prog.cellsOf 3)) = some y0 at w0
    change DataW.trod enc Try.prog w base spare held m 3 ((List.drop 1 [a4, a5, a6, a7, a8]).take (Try.prog.cellsOf 3)) = some y1 at w1
    change DataW.trod enc Try.prog w base spare held m 3 ((List.drop 2 [a4, a5, a6, a7, a8]).take (Try.prog.cellsOf 3)) = some y2 at w2
    change DataW.trod enc Try.prog w base spare held m 3 ((List.drop 3 [a4, a5, a6, a7, a8]).take (Try.prog.cellsOf 3)) = some y3 at w3
    change DataW.trod enc Try.prog w base spare held m 3 ((List.drop 4 [a4, a5, a6, a7, a8]).take (Try.prog.cellsOf 3)) = some y4 at w4
    rw [c1] at w0 w1 w2 w3 w4
    obtain ⟨f0, v0, _, _⟩ := DataW.trod_int Try.underlying3 w0
    obtain ⟨f1, v1, _, _⟩ := DataW.trod_int Try.underlying3 w1
    obtain ⟨f2, v2, _, _⟩ := DataW.trod_int Try.underlying3 w2
    obtain ⟨f3, v3, _, _⟩ := DataW.trod_int Try.underlying3 w3
    obtain ⟨f4, v4, _, _⟩ := DataW.trod_int Try.underlying3 w4
    simp at u0 u1 u2 u3 v0 v1 v2 v3 v4
    subst u0 u1 u2 u3 v0 v1 v2 v3 v4
    exact ⟨⟨k, t, s, d, ⟨f0, f1, f2, f3, f4⟩⟩, rfl⟩
set_option maxRecDepth 100000 in
theorem open_ops {r : Reach} {b0 : Nat} {v : Value} {d : DataW H} {ps : List MemPlace} (hv : Value.okWide Try.prog w r b0 50 v) (h : DataW.Trod enc Try.prog w base spare held 50 v d ps) : ∃ l, OpsAt w v l :=
  open_rows oprCells 9 oprCells_length (by omega) Try.underlying50 (by kernel_rfl) op_one hv h
end
/-- Some answer; where it is true the calls are few. -/
def LightPost (n : Nat) (w : World) (e : Ending) (w' : World) : Prop := ∃ r, e = .returned (.bool r) ∧ (r = true → n ≤ 60) ∧ w = w'
set_option maxHeartbeats 1000000 in
theorem light_any {w : World} {v : Value} {l : List Opr} (h : OpsAt w v l) :
    Calls Try.prog 32 #[v] w (LightPost l.length w) := by
  obtain ⟨_, hm, A, c, rfl, hc⟩ := h
  unfold maxLen at hm
  have HC := hid hc
  clear hc
  go_enter Try.func32, Try.ntmps32
  go_wp2
  go_loop [3] (fun i => ∃ k : Nat, k ≤ l.length ∧ k ≤ 100 ∧ i = .int .i64 k) (fun i => (100 - intOf i).toNat)
  case atStart => exact ⟨0, Nat.zero_le _, by omega, rfl⟩
  case round =>
    obtain ⟨k, hk, hk2, rfl⟩ := hrel
    by_cases hgo : k < l.length ∧ k < 100
    · obtain ⟨hlt, h100⟩ := hgo
      obtain ⟨b, off, rfl, hbl, hcell⟩ := HC.out (by omega)
      have c3 := (OpsAt.cells hcell k hlt).2.2.2.1
      clear hcell
      by_cases hd : 100 < l[k].data.size
      · generalize l[k].data = d at *
        go_wp2
        go_ret
        exact ⟨false, rfl, by simp, rfl⟩
      · generalize l[k].data = d at *
        go_wp2
        go_round
        case rel => exact ⟨k + 1, by omega, by omega, by go_num⟩
        case measure => (simp [intOf]; try omega)
    · by_cases hlt : k < l.length
      · have h100 : 100 ≤ k := by omega
        clear hgo
        go_wp2
        go_ret
        exact ⟨_, rfl, fun h => by simp at h; omega, rfl⟩
      · clear hgo
        go_wp2
        go_ret
        exact ⟨_, rfl, fun h => by simp at h; omega, rfl⟩
end Go.Proofs.Ytegekmdechcikaa
