/- Frames: which blocks a call may turn; slices that a call owns; append on them. Whatever the program. -/
import Derived.Test.YtpoaadjhaknhdaaDBase
import Derived.ArgAppend
import Derived.Deep.AppendLies
namespace Go.Proofs.Ytpoaadjhaknhdaa
open Go Go.RowKit Go.Sort

abbrev Own := Nat → Prop
/-- All but the blocks of o is as it was. -/
structure Fr (o : Own) (w w' : World) : Prop where
  os : w'.os = w.os
  tape : w'.tape = w.tape
  output : w'.output = w.output
  size : w.heap.size ≤ w'.heap.size
  block : ∀ k, k < w.heap.size → ¬ o k → w'.heap[k]? = w.heap[k]?
/-- The same, and what is owned then was owned or is new. -/
structure Mv (o : Own) (w : World) (o' : Own) (w' : World) : Prop where
  fr : Fr o w w'
  ext : ∀ k, o' k → o k ∨ w.heap.size ≤ k
def Or (o1 o2 : Own) : Own := fun k => o1 k ∨ o2 k
def Apart (o1 o2 : Own) : Prop := ∀ k, o1 k → o2 k → False
def Above (B : Nat) (o : Own) : Prop := ∀ k, o k → B ≤ k
def Under (w : World) (o : Own) : Prop := ∀ k, o k → k < w.heap.size
/-- What the call made. -/
def New (w : World) : Own := fun k => w.heap.size ≤ k
def NoOwn : Own := fun _ => False

theorem Fr.refl (o : Own) (w : World) : Fr o w w := ⟨rfl, rfl, rfl, Nat.le_refl _, fun _ _ _ => rfl⟩
theorem Fr.mono {o o2 : Own} {w w' : World} (h : Fr o w w') (k : ∀ x, o x → o2 x) : Fr o2 w w' := ⟨h.os, h.tape, h.output, h.size, fun x hx hn => h.block x hx (fun e => hn (k x e))⟩
theorem Mv.refl (o : Own) (w : World) : Mv o w o w := ⟨Fr.refl o w, fun _ h => .inl h⟩
theorem Fr.trans {o o1 : Own} {w w1 w2 : World} (h : Fr o w w1) (he : ∀ k, o1 k → o k ∨ w.heap.size ≤ k) (k : Fr o1 w1 w2) : Fr o w w2 :=
  ⟨k.os.trans h.os, k.tape.trans h.tape, k.output.trans h.output, Nat.le_trans h.size k.size, fun x hx hn => (k.block x (Nat.lt_of_lt_of_le hx h.size) (fun e => by
    rcases he x e with e | e
    · exact hn e
    · omega)).trans (h.block x hx hn)⟩
theorem Mv.trans {o o1 o2 : Own} {w w1 w2 : World} (h : Mv o w o1 w1) (k : Mv o1 w1 o2 w2) : Mv o w o2 w2 :=
  ⟨h.fr.trans h.ext k.fr, fun x hx => by
    rcases k.ext x hx with e | e
    · exact h.ext x e
    · exact .inr (Nat.le_trans h.fr.size e)⟩
theorem Fr.setCell {o : Own} {w w1 : World} (h : Fr o w w1) (a : Addr) (v : Value) (ha : o a.block ∨ w.heap.size ≤ a.block) : Fr o w (w1.setCell a v) :=
  ⟨h.os, h.tape, h.output, by simpa using h.size, fun k hk hn => (Below.heap_setCell w1 a v k (by
    rintro rfl
    rcases ha with e | e
    · exact hn e
    · omega)).trans (h.block k hk hn)⟩
theorem Fr.setCells {o : Own} {w : World} {b : Nat} (hb : o b ∨ w.heap.size ≤ b) : ∀ (cs : List Value) (i : Nat) (w1 : World), Fr o w w1 → Fr o w (w1.setCells b i cs)
  | [], _, _, h => h
  | v :: r, i, _, h => Fr.setCells hb r (i + 1) _ (h.setCell ⟨b, i, none⟩ v hb)
theorem Fr.ofBelow {o : Own} {w w1 : World} (h : Below w.heap.size w w1) : Fr o w w1 := ⟨h.os, h.tape, h.output, h.size, fun k hk _ => h.block k hk⟩
theorem Fr.thenBelow {o : Own} {w w1 w2 : World} (h : Fr o w w1) (k : Below w1.heap.size w1 w2) : Fr o w w2 := h.trans (o1 := NoOwn) (fun _ e => e.elim) (.ofBelow k)
theorem Mv.ofBelow {o : Own} {w w1 : World} (h : Below w.heap.size w w1) : Mv o w o w1 := ⟨.ofBelow h, fun _ e => .inl e⟩
theorem Mv.thenBelow {o o1 : Own} {w w1 w2 : World} (h : Mv o w o1 w1) (k : Below w1.heap.size w1 w2) : Mv o w o1 w2 := h.trans (.ofBelow k)
theorem Fr.drewN {o : Own} {w w1 : World} (h : Fr o w w1) (n : Nat) : Fr o w (w1.drewN n) := ⟨h.os, h.tape, h.output, h.size, h.block⟩
theorem Fr.alloc {o : Own} {w w1 : World} (h : Fr o w w1) (x : Obj) : Fr o w (w1.alloc x) := h.thenBelow ((Below.refl _ _).alloc (Nat.le_refl _) x)
theorem Fr.below {o : Own} {w w' : World} {B : Nat} (h : Fr o w w') (ha : Above B o) (hB : B ≤ w.heap.size) : Below B w w' :=
  ⟨h.os, h.tape, h.output, h.size, fun k hk => h.block k (by omega) (fun e => by have := ha k e; omega)⟩
theorem Mv.above {o o' : Own} {w w' : World} {B : Nat} (h : Mv o w o' w') (ha : Above B o) (hB : B ≤ w.heap.size) : Above B o' := fun k hk => by
  rcases h.ext k hk with e | e
  · exact ha k e
  · omega
theorem Fr.of_grown {o : Own} {w w' : World} {r : Option Nat} (h : w.grownBy w' r) (hr : ∀ k, r = some k → o k) : Fr o w w' := ⟨h.os, h.tape, h.output, h.size, fun k hk hn => h.block k hk (fun e => hn (hr k e.symm))⟩
theorem Apart.symm {o1 o2 : Own} (h : Apart o1 o2) : Apart o2 o1 := fun k a b => h k b a
theorem Mv.apart {o1 o1' o2 : Own} {w w' : World} (h : Mv o1 w o1' w') (hu : Under w o2) (ha : Apart o1 o2) : Apart o1' o2 := fun k a b => by
  rcases h.ext k a with e | e
  · exact ha k e b
  · have := hu k b; omega
theorem Under.mv {o1 : Own} {w w' : World} (h : w.heap.size ≤ w'.heap.size) (hu : Under w o1) : Under w' o1 := fun k e => Nat.lt_of_lt_of_le (hu k e) h
/-- One of two owners moves. -/
theorem Mv.left {o1 o1' o2 : Own} {w w' : World} (h : Mv o1 w o1' w') : Mv (Or o1 o2) w (Or o1' o2) w' :=
  ⟨h.fr.mono fun _ e => .inl e, fun k e => by
    rcases e with e | e
    · rcases h.ext k e with e | e
      · exact .inl (.inl e)
      · exact .inr e
    · exact .inl (.inr e)⟩
theorem Mv.right {o1 o2 o2' : Own} {w w' : World} (h : Mv o2 w o2' w') : Mv (Or o1 o2) w (Or o1 o2') w' :=
  ⟨h.fr.mono fun _ e => .inr e, fun k e => by
    rcases e with e | e
    · exact .inl (.inl e)
    · rcases h.ext k e with e | e
      · exact .inl (.inr e)
      · exact .inr e⟩
theorem Apart.orLeft {a b c : Own} (h : Apart (Or a b) c) : Apart a c ∧ Apart b c := ⟨fun k x y => h k (.inl x) y, fun k x y => h k (.inr x) y⟩
theorem Apart.or {a b c : Own} (h : Apart a c) (k : Apart b c) : Apart (Or a b) c := fun x e y => by
  rcases e with e | e
  · exact h x e y
  · exact k x e y
theorem Under.or {w : World} {a b : Own} (h : Under w a) (k : Under w b) : Under w (Or a b) := fun x e => by
  rcases e with e | e
  · exact h x e
  · exact k x e
theorem Above.or {B : Nat} {a b : Own} (h : Above B a) (k : Above B b) : Above B (Or a b) := fun x e => by
  rcases e with e | e
  · exact h x e
  · exact k x e

/-- The slice v, of n elements of some cells each, holds the cells xs, in a block that is owned, and may be written up to its capacity. -/
def OwnSl (w : World) (o : Own) (size : Nat) (v : Value) (n : Nat) (xs : List Value) : Prop :=
  xs.length = n * size ∧ ((v = .slice none 0 0 ∧ n = 0) ∨ ∃ g off cap, v = .slice (some ⟨g, off, none⟩) n cap ∧ o g ∧ g < w.heap.size ∧ n ≤ cap ∧ cap ≤ maxLen ∧
    (∀ j u, xs[j]? = some u → w.cell? ⟨g, off + j, none⟩ = some u) ∧ ∀ j, j < cap * size → (w.cell? ⟨g, off + j, none⟩).isSome = true ∧ w.frozen? ⟨g, off + j, none⟩ = false)
section
variable {w w' : World} {o o2 : Own} {size n : Nat} {v : Value} {xs : List Value}
theorem OwnSl.nil (w : World) (o : Own) (size : Nat) : OwnSl w o size (.slice none 0 0) 0 [] := ⟨by simp, .inl ⟨rfl, rfl⟩⟩
theorem OwnSl.mono (h : OwnSl w o size v n xs) (k : ∀ x, o x → o2 x) : OwnSl w o2 size v n xs := by
  obtain ⟨h1, h2⟩ := h
  refine ⟨h1, ?_⟩
  rcases h2 with h2 | ⟨g, off, cap, a, b, c⟩
  · exact .inl h2
  · exact .inr ⟨g, off, cap, a, k _ b, c⟩
theorem OwnSl.fr (h : OwnSl w o size v n xs) (hf : Fr o2 w w') (ha : Apart o o2) : OwnSl w' o size v n xs := by
  obtain ⟨h1, h2⟩ := h
  refine ⟨h1, ?_⟩
  rcases h2 with h2 | ⟨g, off, cap, a, b, c, d, e, f, k⟩
  · exact .inl h2
  · have hb := hf.block g c (fun z => ha g b z)
    refine .inr ⟨g, off, cap, a, b, Nat.lt_of_lt_of_le c hf.size, d, e, fun j u hu => (World.cell?_of_block (w := w) (a := ⟨g, off + j, none⟩) hb).trans (f j u hu), fun j hj => ?_⟩
    rw [World.cell?_of_block (w := w) (a := ⟨g, off + j, none⟩) hb, World.frozen?_of_block (w := w) (a := ⟨g, off + j, none⟩) hb]
    exact k j hj
theorem OwnSl.below (h : OwnSl w o size v n xs) (hb : Below w.heap.size w w') : OwnSl w' o size v n xs := h.fr (o2 := NoOwn) (.ofBelow hb) (fun _ _ e => e)
theorem OwnSl.of_row {base : Nat} {e : TypeId} (h : w.ownsRow base e size v n xs) (ho : ∀ k, base ≤ k → o k) : OwnSl w o size v n xs := by
  obtain ⟨h1, h2⟩ := h
  refine ⟨h1, ?_⟩
  rcases h2 with h2 | ⟨g, cap, cur, rfl, hb, hg, hn, hc, hs, ht⟩
  · exact .inl h2
  · refine .inr ⟨g, 0, cap, rfl, ho g hb, (Array.getElem?_eq_some_iff.1 hg).1, hn, hc, fun j u hu => ?_, fun j hj => ⟨?_, ?_⟩⟩
    · rw [Nat.zero_add, cell_of_row w g j cur e (0, 0) hg, ← Array.getElem?_toList]
      rw [← ht, List.getElem?_take] at hu
      split at hu
      · exact hu
      · cases hu
    · rw [Nat.zero_add, cell_of_row w g j cur e (0, 0) hg]
      simp [hs, hj]
    · simp [World.frozen?, hg]
/-- 's[1:]'. -/
theorem OwnSl.form (h : OwnSl w o size v n xs) : ∃ A cap, v = .slice A n cap ∧ n ≤ cap := by
  rcases h.2 with ⟨rfl, rfl⟩ | ⟨g, off, cap, rfl, _, _, hn, _⟩
  · exact ⟨none, 0, rfl, Nat.le_refl _⟩
  · exact ⟨_, cap, rfl, hn⟩
theorem OwnSl.some_ (h : OwnSl w o size v n xs) (hn : 0 < n) : ∃ g off cap, v = .slice (some ⟨g, off, none⟩) n cap ∧ o g ∧ g < w.heap.size ∧ n ≤ cap ∧ cap ≤ maxLen ∧
    (∀ j u, xs[j]? = some u → w.cell? ⟨g, off + j, none⟩ = some u) ∧ ∀ j, j < cap * size → (w.cell? ⟨g, off + j, none⟩).isSome = true ∧ w.frozen? ⟨g, off + j, none⟩ = false := by
  rcases h.2 with ⟨_, h0⟩ | h
  · omega
  · exact h
end

/-- A source of append: m elements whose cells are xs. -/
def Src (w : World) (size : Nat) (v : Value) (m : Nat) (xs : List Value) : Prop :=
  xs.length = m * size ∧ ((v = .slice none 0 0 ∧ m = 0) ∨ ∃ ad c, v = .slice (some ad) m c ∧ ∀ j u, xs[j]? = some u → w.cell? (ad.add j) = some u)
theorem OwnSl.src {w : World} {o : Own} {size n : Nat} {v : Value} {xs : List Value} (h : OwnSl w o size v n xs) : Src w size v n xs := by
  refine ⟨h.1, ?_⟩
  rcases h.2 with h | ⟨g, off, cap, a, _, _, _, _, f, _⟩
  · exact .inl h
  · exact .inr ⟨_, cap, a, fun j u hu => by rw [Addr.add_lit]; exact f j u hu⟩
theorem cell_setCells_out (b : Nat) : ∀ (cs : List Value) (i : Nat) (w1 : World) (a : Addr), (a.block ≠ b ∨ a.off < i ∨ i + cs.length ≤ a.off) → (w1.setCells b i cs).cell? a = w1.cell? a
  | [], _, _, _, _ => rfl
  | v :: r, i, w1, a, h => by
    show ((w1.setCell ⟨b, i, none⟩ v).setCells b (i + 1) r).cell? a = _
    rw [cell_setCells_out b r (i + 1) _ a (by simp only [List.length_cons] at h; omega), World.cell?_setCell_other _ _ _ _ (by rintro rfl; simp only [List.length_cons] at h; omega)]
theorem cells_setCells_new (b : Nat) : ∀ (cs : List Value) (i : Nat) (w1 : World), (∀ j, j < cs.length → (w1.cell? ⟨b, i + j, none⟩).isSome = true) → ∀ j u, cs[j]? = some u → (w1.setCells b i cs).cell? ⟨b, i + j, none⟩ = some u
  | [], _, _, _, j, u, hj => by simp at hj
  | v :: r, i, w1, h, j, u, hj => by
    have hsome : ∀ k, k < r.length → ((w1.setCell ⟨b, i, none⟩ v).cell? ⟨b, i + 1 + k, none⟩).isSome = true := fun k hk => by
      rw [World.cell?_setCell_other _ _ _ _ (by intro e; injection e with _ e; omega)]
      have := h (k + 1) (by simp; omega)
      rwa [show i + (k + 1) = i + 1 + k by omega] at this
    cases j with
    | zero =>
      obtain rfl : v = u := by simpa using hj
      show ((w1.setCell ⟨b, i, none⟩ v).setCells b (i + 1) r).cell? ⟨b, i, none⟩ = some v
      rw [cell_setCells_out _ _ _ _ _ (.inr (.inl (Nat.lt_succ_self i)))]
      obtain ⟨x, hx⟩ := Option.isSome_iff_exists.1 (h 0 (by simp))
      exact World.cell?_setCell_same _ _ _ hx
    | succ j =>
      show ((w1.setCell ⟨b, i, none⟩ v).setCells b (i + 1) r).cell? ⟨b, i + (j + 1), none⟩ = some u
      rw [show i + (j + 1) = i + 1 + j by omega]
      exact cells_setCells_new b r (i + 1) _ hsome j u (by simpa using hj)
theorem isSome_setCells (b : Nat) : ∀ (cs : List Value) (i : Nat) (w1 : World) (a : Addr), (w1.cell? a).isSome = true → ((w1.setCells b i cs).cell? a).isSome = true
  | [], _, _, _, h => h
  | v :: r, i, w1, a, h => by
    refine isSome_setCells b r (i + 1) _ a ?_
    by_cases e : (⟨b, i, none⟩ : Addr) = a
    · subst e
      obtain ⟨u, hu⟩ := Option.isSome_iff_exists.1 h
      rw [World.cell?_setCell_same _ _ _ hu]
      rfl
    · rw [World.cell?_setCell_other _ _ _ _ e]; exact h
theorem frozen_setCells (b : Nat) : ∀ (cs : List Value) (i : Nat) (w1 : World) (a : Addr), (w1.setCells b i cs).frozen? a = w1.frozen? a
  | [], _, _, _ => rfl
  | _ :: r, i, _, a => (frozen_setCells b r (i + 1) _ a).trans (World.frozen?_setCell _ _ _ _)

/-- What is owned, and what is new. -/
def Grow (o : Own) (w w' : World) : Own := fun k => o k ∨ (w.heap.size ≤ k ∧ k < w'.heap.size)
theorem Fr.mv {o : Own} {w w' : World} (h : Fr o w w') : Mv o w (Grow o w w') w' := ⟨h, fun k e => by
  rcases e with e | e
  · exact .inl e
  · exact .inr e.1⟩
theorem Fr.under {o : Own} {w w' : World} (h : Fr o w w') (hu : Under w o) : Under w' (Grow o w w') := fun k e => by
  rcases e with e | e
  · have := hu k e; have := h.size; omega
  · exact e.2

/-- append. -/
theorem run_append_sl {P : Program} (w : World) (t ty e : TypeId) (i : TypeInfo) (z : Value) (size bytes : Nat) (ht : P.underlying t = some (.slice e)) (hi : P.info? e = some i) (hz : i.zero = some z)
    (hsize : i.size = size) (hby : i.bytes = bytes) (hzs : z.cells.size = size) (hsz : 0 < size) {o : Own} {v x : Value} {n m : Nat} {xs news : List Value}
    (hown : OwnSl w o size v n xs) (hsrc : Src w size x m news) (h1 : ∀ u ∈ news, u.oneCell' = true) (h63 : n + m ≤ maxLen) (hbytes : (n + m) * bytes ≤ 140737488355328) :
    ∃ v' w', (Builtin.append_ #[t, t] ty #[v, x]).run P w = .ok v' w' ∧ OwnSl w' (Grow o w w') size v' (n + m) (xs ++ news) ∧ Fr o w w' := by
  obtain ⟨hl, hsrc⟩ := hsrc
  rcases hsrc with ⟨rfl, rfl⟩ | ⟨ad, c, rfl, hnews⟩
  · obtain rfl : news = [] := List.eq_nil_of_length_eq_zero (by simpa using hl)
    refine ⟨v, w, ?_, by simpa using hown.mono fun _ e => .inl e, Fr.refl _ _⟩
    obtain ⟨A, cap, rfl, hc⟩ := hown.form
    cases A with
    | none =>
      rcases hown.2 with ⟨h, _⟩ | ⟨g, off, cap', h, _⟩
      · injection h with _ h2 h3; subst h2; subst h3
        simp [Builtin.append_, run_underlying ht, sizeOf, typeInfo, hi, Builtin.lenOf, Builtin.firstCells]
      · cases h
    | some A => simp [Builtin.append_, run_underlying ht, sizeOf, typeInfo, hi, Builtin.lenOf, Builtin.firstCells, hc, storeCells]
  · have grown : ∀ {v' w'}, w'.ownsRow w.heap.size e size v' (n + m) (xs ++ news) → w.grownBy w' none → OwnSl w' (Grow o w w') size v' (n + m) (xs ++ news) ∧ Fr o w w' := fun {v' w'} r1 r2 => by
      refine ⟨?_, .of_grown r2 (fun _ h => by cases h)⟩
      have h2 := OwnSl.of_row (o := fun k => w.heap.size ≤ k) r1 (fun k hk => hk)
      obtain ⟨e1, e2⟩ := h2
      refine ⟨e1, ?_⟩
      rcases e2 with e2 | ⟨g, off, cap, a, b, c, d⟩
      · exact .inl e2
      · exact .inr ⟨g, off, cap, a, .inr ⟨b, c⟩, c, d⟩
    rcases hown.2 with ⟨rfl, rfl⟩ | ⟨g, off, cap, rfl, hog, hg, hnc, hcm, hcell, hfree⟩
    · have hx : xs = [] := List.eq_nil_of_length_eq_zero (by simpa using hown.1)
      subst hx
      obtain ⟨v', w', hrun, r1, r2, _⟩ := run_append_own (P := P) w w.heap.size t ty e i z size bytes ht hi hz hsize hby hzs hsz (.slice none 0 0) 0 [] (World.ownsRow_nil w _ e size) ad m c news hl hnews h1 h63 hbytes (Nat.le_refl _)
      exact ⟨v', w', hrun, grown r1 r2⟩
    · by_cases hroom : n + m ≤ cap
      · subst hsize
        have hm : news.length ≤ (cap - n) * i.size := by rw [hl]; exact Nat.mul_le_mul_right _ (by omega)
        have hmul : n * i.size + (cap - n) * i.size = cap * i.size := by rw [← Nat.add_mul]; congr 1; omega
        have hsp : ∀ j, j < news.length → (w.cell? ⟨g, off + n * i.size + j, none⟩).isSome = true ∧ w.frozen? ⟨g, off + n * i.size + j, none⟩ = false := fun j hj => by
          rw [Nat.add_assoc]
          exact hfree (n * i.size + j) (by omega)
        refine ⟨_, _, run_append_room_cells (P := P) w t ty e i ht hi g off n cap ad m c news hl hnews h1 hroom (fun j hj => (hsp j hj).1) (fun j hj => (hsp j hj).2), ⟨by rw [List.length_append, hown.1, hl, Nat.add_mul], .inr ⟨g, off, cap, rfl, .inl hog, by rw [size_setCells]; exact hg, hroom, hcm, ?_, ?_⟩⟩, ?_⟩
        · intro j u hu
          by_cases hj : j < xs.length
          · rw [cell_setCells_out _ _ _ _ _ (.inr (.inl (show off + j < off + n * i.size by rw [hown.1] at hj; omega)))]
            exact hcell j u (by rwa [List.getElem?_append_left hj] at hu)
          · rw [List.getElem?_append_right (by omega)] at hu
            have := cells_setCells_new g news (off + n * i.size) w (fun j hj => (hsp j hj).1) (j - xs.length) u hu
            rwa [show off + n * i.size + (j - xs.length) = off + j by have := hown.1; omega] at this
        · intro j hj
          rw [frozen_setCells]
          exact ⟨isSome_setCells _ _ _ _ _ (hfree j hj).1, (hfree j hj).2⟩
        · exact Fr.setCells (.inl hog) _ _ _ (Fr.refl _ _)
      · obtain ⟨v', w', hrun, r1, r2⟩ := run_append_arg_grows (P := P) w t ty e i z size bytes ht hi hz hsize hby hzs hsz ⟨g, off, none⟩ n cap xs hown.1 (fun j u hj => by rw [Addr.add_lit]; exact hcell j u hj) ad m c news hl hnews (by omega) h63 hbytes
        exact ⟨v', w', hrun, grown r1 r2⟩
theorem wp_append_sl {P : Program} {w : World} {op : Oper} {a : Act} {K : Act → World → Prop} {Q : Exit → Act → World → Prop} (s y : Operand) (t : TypeId)
    (ho : op.op = .call { callee := .builtin .append, args := #[s, y], argTypes := #[t, t] })
    (e : TypeId) (i : TypeInfo) (z : Value) (size bytes : Nat) (ht : P.underlying t = some (.slice e)) (hi : P.info? e = some i) (hz : i.zero = some z)
    (hsize : i.size = size) (hby : i.bytes = bytes) (hzs : z.cells.size = size) (hsz : 0 < size) (o : Own) (v x : Value) (n m : Nat) (xs news : List Value) (hs : a.eval s = v) (hx : a.eval y = x)
    (hown : OwnSl w o size v n xs) (hsrc : Src w size x m news) (h1 : ∀ u ∈ news, u.oneCell' = true) (h63 : n + m ≤ maxLen) (hbytes : (n + m) * bytes ≤ 140737488355328)
    (h : ∀ v' w', OwnSl w' (Grow o w w') size v' (n + m) (xs ++ news) → Fr o w w' → K (a.put op.dst v') w') : op.wp P a w K Q := by
  obtain ⟨v', w', hr, h2, h3⟩ := run_append_sl (P := P) w t op.type e i z size bytes ht hi hz hsize hby hzs hsz hown hsrc h1 h63 hbytes
  unfold Oper.wp execOp
  simp only [ho, resolve, invoke, builtin, Sem.run_bind, Sem.run_pure, Result.andThen_ok, List.map_toArray, List.map_cons, List.map_nil, hs, hx, hr]
  exact h v' w' h2 h3
theorem wpList_append_sl {P : Program} {w : World} {ops : Array Oper} {rest : List Oper} {op : Oper} {a : Act} {Q : Exit → Act → World → Prop} (hgd : op.guard = none) (s y : Operand) (t : TypeId)
    (ho : op.op = .call { callee := .builtin .append, args := #[s, y], argTypes := #[t, t] })
    (e : TypeId) (i : TypeInfo) (z : Value) (size bytes : Nat) (ht : P.underlying t = some (.slice e)) (hi : P.info? e = some i) (hz : i.zero = some z)
    (hsize : i.size = size) (hby : i.bytes = bytes) (hzs : z.cells.size = size) (hsz : 0 < size) (o : Own) (v x : Value) (n m : Nat) (xs news : List Value) (hs : a.eval s = v) (hx : a.eval y = x)
    (hown : OwnSl w o size v n xs) (hsrc : Src w size x m news) (h1 : ∀ u ∈ news, u.oneCell' = true) (h63 : n + m ≤ maxLen) (hbytes : (n + m) * bytes ≤ 140737488355328)
    (h : ∀ v' w', OwnSl w' (Grow o w w') size v' (n + m) (xs ++ news) → Fr o w w' → wpList P ops Q rest (a.put op.dst v') w') : wpList P ops Q (op :: rest) a w :=
  wpList_plain hgd fun _ hK => wp_append_sl s y t ho e i z size bytes ht hi hz hsize hby hzs hsz o v x n m xs news hs hx hown hsrc h1 h63 hbytes fun v' w' h2 h3 => hK _ _ (h v' w' h2 h3)
theorem step_append_sl {P : Program} {w : World} {ops : Array Oper} {op : Oper} {a : Act} {K : Act → World → Prop} {Q : Exit → Act → World → Prop} {E : Prop} (hgd : op.guard = none) (s y : Operand) (t : TypeId)
    (ho : op.op = .call { callee := .builtin .append, args := #[s, y], argTypes := #[t, t] })
    (e : TypeId) (i : TypeInfo) (z : Value) (size bytes : Nat) (ht : P.underlying t = some (.slice e)) (hi : P.info? e = some i) (hz : i.zero = some z)
    (hsize : i.size = size) (hby : i.bytes = bytes) (hzs : z.cells.size = size) (hsz : 0 < size) (o : Own) (v x : Value) (n m : Nat) (xs news : List Value) (hs : a.eval s = v) (hx : a.eval y = x)
    (hown : OwnSl w o size v n xs) (hsrc : Src w size x m news) (h1 : ∀ u ∈ news, u.oneCell' = true) (h63 : n + m ≤ maxLen) (hbytes : (n + m) * bytes ≤ 140737488355328)
    (h : ∀ v' w', OwnSl w' (Grow o w w') size v' (n + m) (xs ++ news) → Fr o w w' → K (a.put op.dst v') w') : if Region.wanted op (yielded ops a.tmps) = true then Oper.wp P op a w K Q else E := by
  have hw : Region.wanted op (yielded ops a.tmps) = true := by simp [Region.wanted, hgd]
  rw [if_pos hw]
  exact wp_append_sl s y t ho e i z size bytes ht hi hz hsize hby hzs hsz o v x n m xs news hs hx hown hsrc h1 h63 hbytes h
end Go.Proofs.Ytpoaadjhaknhdaa
