/- The maker: what is built ahead of the loops. -/
import Derived.Test.YtpoaadjhaknhdaaW37
namespace Go.Proofs.Ytpoaadjhaknhdaa
open Go Go.RowKit Go.Sort Go.Deep

/-- P rests on blocks that are new since w0. -/
def SupU (w0 w : World) (P : World → Prop) : Prop := ∀ M, Under w0 M → Sup M w P
section
variable {w0 w1 w w' : World} {P Q : World → Prop} {gt : Nat}
theorem SupU.below (h : SupU w0 w P) (hb : Below w.heap.size w w') : SupU w0 w' P := fun M hM => (h M hM).below hb
theorem SupU.next (h : SupU w0 w P) (hf : Fr (Just gt) w w') (hgt : gt < w0.heap.size) : SupU w0 w' P := fun M hM => by
  have hM' : Under w0 (Or M (Just gt)) := hM.or (fun k e => by rw [show k = gt from e]; exact hgt)
  exact ((h _ hM').fr (hf.mono fun k e => .inr e)).less fun k e => .inl e
theorem SupU.and (h : SupU w0 w P) (k : SupU w0 w Q) : SupU w0 w fun w' => P w' ∧ Q w' := fun M hM w' hf => ⟨h M hM w' hf, k M hM w' hf⟩
theorem SupU.imp (h : SupU w0 w P) (k : ∀ w', P w' → Q w') : SupU w0 w Q := fun M hM w' hf => k w' (h M hM w' hf)
theorem SupU.le (h : SupU w1 w P) (hs : w0.heap.size ≤ w1.heap.size) : SupU w0 w P := fun M hM => h M (hM.mv hs)
theorem SupU.block {g : Nat} {x : Obj} (hg : w0.heap.size ≤ g) (h : w.heap[g]? = some x) : SupU w0 w fun w' => w'.heap[g]? = some x := fun M hM w' hf =>
  (hf.block g (Array.getElem?_eq_some_iff.1 h).1 (fun e => by have := hM _ e; omega)).trans h
end
theorem Sup2.u {w0 w : World} {u v : Value} {a b : Nat} (h : Sup2 w0 w u v a b) : SupU w0 w fun w' => One w' u a ∧ One w' v b := h
/-- A fraction alone in its block. -/
theorem frat_new {w : World} {g a b : Nat} {u v : Value} (hg : w.heap[g]? = some (.cells #[.bool false, u, v] 48 (0, 0))) (h : One w u a ∧ One w v b) (hb : 0 < b) : FrAt w g 0 :=
  ⟨(Array.getElem?_eq_some_iff.1 hg).1, u, v, a, b, cell_block hg 0, cell_block hg 1, cell_block hg 2, h.1, h.2, hb⟩
/-- The law that is built. -/
structure LawBlk (w : World) (g1 g2 g3 g4 g5 : Nat) : Prop where
  s : FrAt w g1 0
  r : FrAt w g2 0
  e : FrAt w g4 0
  rr : w.heap[g3]? = some (.cells #[.slice (some ⟨g2, 0, none⟩) 1 1] 44 (0, 0))
  row : ∃ nm, w.heap[g5]? = some (.cells #[.string nm, .slice (some ⟨g1, 0, none⟩) 1 1, .slice (some ⟨g3, 0, none⟩) 1 1, .slice (some ⟨g4, 0, none⟩) 1 1] 64 (0, 0))
theorem LawBlk.rows {w : World} {g1 g2 g3 g4 g5 : Nat} (h : LawBlk w g1 g2 g3 g4 g5) : RowsIn w (.slice (some ⟨g5, 0, none⟩) 1 1) 1 4 LawCell := by
  obtain ⟨nm, hr⟩ := h.row
  have h1 : (1 : Nat) ≤ maxLen := by unfold maxLen; omega
  refine ⟨_, 1, rfl, Nat.le_refl _, h1, fun _ => ⟨g5, 0, rfl, (Array.getElem?_eq_some_iff.1 hr).1, fun j hj => ?_⟩⟩
  obtain rfl : j = 0 := by omega
  refine ⟨nm, _, _, _, fun q u hu => ?_, ⟨⟨g1, 0, 1, rfl, Nat.le_refl _, h1, h.s⟩, ⟨g4, 0, 1, rfl, Nat.le_refl _, h1, h.e⟩, ⟨g3, 0, 1, rfl, Nat.le_refl _, h1, (Array.getElem?_eq_some_iff.1 h.rr).1, g2, 0, 1, cell_block h.rr 0, Nat.le_refl _, h1, h.r⟩⟩⟩
  rw [show 0 + 0 * 4 + q = q by omega, cell_block hr q, List.getElem?_toArray]
  exact hu
theorem models_rows {w : World} {g : Nat} {nm1 nm2 : ByteArray} {a b c a' b' c' : Int} (h : w.heap[g]? = some (.cells #[.string nm1, .int .i64 a, .int .i64 b, .int .i64 c, .string nm2, .int .i64 a', .int .i64 b', .int .i64 c'] 66 (0, 0))) : RowsIn w (.slice (some ⟨g, 0, none⟩) 2 2) 2 4 ModCell := by
  refine ⟨_, 2, rfl, Nat.le_refl _, by unfold maxLen; omega, fun _ => ⟨g, 0, rfl, (Array.getElem?_eq_some_iff.1 h).1, fun j hj => ?_⟩⟩
  rcases (by omega : j = 0 ∨ j = 1) with rfl | rfl
  · refine ⟨nm1, a, b, c, fun q u hu => ?_⟩
    have hq : q < 4 := (List.getElem?_eq_some_iff.1 hu).1
    rw [show 0 + 0 * 4 + q = q by omega, cell_block h q, List.getElem?_toArray]
    match q, hq, hu with
    | 0, _, hu => exact hu
    | 1, _, hu => exact hu
    | 2, _, hu => exact hu
    | 3, _, hu => exact hu
  · refine ⟨nm2, a', b', c', fun q u hu => ?_⟩
    have hq : q < 4 := (List.getElem?_eq_some_iff.1 hu).1
    rw [show 0 + 1 * 4 + q = 4 + q by omega, cell_block h (4 + q), List.getElem?_toArray]
    match q, hq, hu with
    | 0, _, hu => exact hu
    | 1, _, hu => exact hu
    | 2, _, hu => exact hu
    | 3, _, hu => exact hu
section
variable {S : World → Prop} {B gt gr gf I : Nat} {w0 w w' : World} {ex : Int} {vl vm : Value} {v : Nat → Value} {n : Nat → Nat} {M : Own} {o : Nat → Own}
theorem Mk.next_call (h : Mk S B gt gr gf w0 w I ex vl vm v n M o) (hI : I ≤ 1000000) (k : Nat) (h1 : 1 ≤ k) (hk : k ≤ 1000) :
    Calls Try.prog 11 #[.pointer (some ⟨gt, 0, none⟩), .int .i64 (k : Int)] w fun e w' => ∃ r : Nat, r < k ∧ e = .returned (.int .i64 (r : Int)) ∧ Mk S B gt gr gf w0 w' (I + 1) ex vl vm v n M o ∧ Fr (Just gt) w w' := by
  refine (next_any h.tape hI k h1 hk).mono ?_
  rintro e w' ⟨r, hr, rfl, ht, hf⟩
  exact ⟨r, hr, rfl, h.next ht hf, hf⟩
/-- A field of the fleet's row is stored. -/
theorem Mk.field (h : Mk S B gt gr gf w0 w I ex vl vm v n M o) {S' : World → Prop} (hS : Sup M w S') (fi : Nat) (x vl' vm' : Value) (hset : (fleetArr ex vl vm (v 0) (v 1) (v 2) (v 3)).setIfInBounds fi x = fleetArr ex vl' vm' (v 0) (v 1) (v 2) (v 3)) :
    Mk S' B gt gr gf w0 (w.setCell ⟨gf, fi, none⟩ x) I ex vl' vm' v n M o := by
  have hf : Fr (Just gf) w (w.setCell ⟨gf, fi, none⟩ x) := (Fr.refl (Just gf) w).setCell ⟨gf, fi, none⟩ _ (.inl rfl)
  have hs : ∀ k, Just gf k → M k := fun k e => by rw [show k = gf from e]; exact h.mem.2.2
  have ho := h.order
  refine ⟨h.tape.fr hf (fun k e => by have : k = gf := e; omega), (hf.block gr (h.under _ h.mem.2.1) (fun e => by have : gr = gf := e; omega)).trans h.res, ?_, fun i hi => (h.comp i hi).mv ⟨hf.mono hs, fun _ e => .inl e⟩ hf (fun k a b => ?_), h.apart, h.sub, h.mem, h.under.mv hf.size, h.above, hS.fr (hf.mono hs), h.order, below_of_fr h.base hf (fun k hk => h.above k (hs k hk)) (Nat.le_of_lt (h.under _ h.mem.1))⟩
  · rw [← hset]
    exact heap_setCell_same w gf fi _ _ x h.row
  · have := (h.sub i hi k a).2
    have : k = gf := b
    omega
theorem Mk.cells (h : Mk S B gt gr gf w0 w I ex vl vm v n M o) (fi : Nat) : w.cell? ⟨gf, fi, none⟩ = (fleetArr ex vl vm (v 0) (v 1) (v 2) (v 3))[fi]? := cell_block h.row fi
theorem Mk.free (h : Mk S B gt gr gf w0 w I ex vl vm v n M o) (fi : Nat) : w.frozen? ⟨gf, fi, none⟩ = false := frozen_of_row _ _ _ _ _ h.row
theorem Mk.lt (h : Mk S B gt gr gf w0 w I ex vl vm v n M o) : gf < w.heap.size := h.under _ h.mem.2.2
/-- The first domain. -/
theorem Mk.first (h : Mk S B gt gr gf w0 w I ex vl vm v n M o) (h0 : n 0 = 0) {u x : Value} {a b : Nat} (hs : Sup M w fun w' => One w' u a ∧ One w' x b) (hb : 0 < b) :
    MkE S B gt gr gf w0 ex vl vm I 1 (n 1) (n 2) (n 3) ((w.alloc (.cells (domRow ⟨#[]⟩ 0 (-1) 0 u x).toArray 68)).setCell ⟨gf, 3, none⟩ (.slice (some ⟨w.heap.size, 0, none⟩) 1 1)) := by
  have hW : Below w.heap.size w (w.alloc (.cells (domRow ⟨#[]⟩ 0 (-1) 0 u x).toArray 68)) := (Below.refl _ _).alloc (Nat.le_refl _) _
  have hn := RowsOwn.new w 68 (domRow ⟨#[]⟩ 0 (-1) 0 u x)
  generalize w.alloc (.cells (domRow ⟨#[]⟩ 0 (-1) 0 u x).toArray 68) = W at *
  have hrow : W.heap[gf]? = _ := (hW.block gf h.lt).trans h.row
  have hfs : Fr (Just gf) W (W.setCell ⟨gf, 3, none⟩ (.slice (some ⟨w.heap.size, 0, none⟩) 1 1)) := (Fr.refl (Just gf) W).setCell ⟨gf, 3, none⟩ _ (.inl rfl)
  have hf : Fr (Or (Just gf) (o 0)) w (W.setCell ⟨gf, 3, none⟩ (.slice (some ⟨w.heap.size, 0, none⟩) 1 1)) := (Fr.ofBelow hW : Fr (Or (Just gf) (o 0)) w W).trans (o1 := Just gf) (fun k e => .inl (.inl e)) hfs
  have hext : ∀ k, Just w.heap.size k → o 0 k ∨ w.heap.size ≤ k := fun k e => .inr (by rw [show k = w.heap.size from e]; exact Nat.le_refl _)
  have hsz : w.heap.size < W.heap.size := by
    obtain ⟨A, c, e, _, _, hx⟩ := hn.at_
    obtain ⟨g, off, rfl, hg, hl, _⟩ := hx (by simp)
    injection e with e
    injection e with e
    injection e with e
    rw [e]; exact hl
  have hm := h.addMv (i := 0) (by omega) hf hext
  refine ⟨_, _, _, _, h.add 0 (by omega) (v' := .slice (some ⟨w.heap.size, 0, none⟩) 1 1) (n' := 1) (oi := Just w.heap.size) hf hext (fun k e => by rw [show k = w.heap.size from e]; simpa using hsz) ?_ ⟨[domRow ⟨#[]⟩ 0 (-1) 0 u x], rfl, ?_, fun j hj => ?_⟩, upd_same _ _ _, upd_ne _ _ _ (by omega), upd_ne _ _ _ (by omega), upd_ne _ _ _ (by omega)⟩
  · exact heap_setCell_same W gf 3 _ _ _ hrow
  · exact hn.fr hfs (fun k a b => by
      have e1 : k = w.heap.size := a
      have e2 : k = gf := b
      have := h.lt
      omega)
  · obtain rfl : j = 0 := by simp at hj; omega
    exact ⟨⟨#[]⟩, 0, -1, 0, u, x, a, b, rfl, hs.mv hm, hb, by omega, by omega, fun _ => ⟨rfl, rfl, rfl, rfl⟩⟩
end
end Go.Proofs.Ytpoaadjhaknhdaa

/- The maker: a policy while it is made. -/
namespace Go.Proofs.Ytpoaadjhaknhdaa
open Go Go.RowKit Go.Sort Go.Deep

theorem RowsOwn.sup {M o : Own} {w : World} {size : Nat} {v : Value} {L : List (List Value)} (h : RowsOwn w o size v L) (ha : Apart o M) : Sup M w fun w' => RowsOwn w' o size v L := fun _ hf => h.fr hf ha
abbrev frRow (u v : Value) : List Value := [.bool false, u, v]
theorem rows_frs {w : World} {o : Own} {v : Value} {L : List (List Value)} (h : RowsOwn w o 3 v L) (hq : ∀ r ∈ L, ∃ u v a b, r = frRow u v ∧ (One w u a ∧ One w v b) ∧ 0 < b) : FrsAt w v L.length := by
  obtain ⟨A, c, e, h1, h2, h3⟩ := h.at_
  refine ⟨A, c, e, h1, h2, fun h0 => ?_⟩
  obtain ⟨g, off, e2, _, hg, hc⟩ := h3 h0
  refine ⟨g, off, e2, fun j hj => ?_⟩
  obtain ⟨u, x, a, b, e3, ho, hb⟩ := hq _ (List.getElem_mem hj)
  have hcj := hc j hj
  rw [e3] at hcj
  exact ⟨hg, u, x, a, b, hcj 0 _ rfl, hcj 1 _ rfl, hcj 2 _ rfl, ho.1, ho.2, hb⟩
/-- A policy in its own block gp, its list of rates in blocks orp. -/
structure Pm (S : World → Prop) (B gt gr gf gp : Nat) (w0 w : World) (I : Nat) (ex : Int) (vl vm : Value) (v : Nat → Value) (n : Nat → Nat) (M : Own) (o : Nat → Own) (row : Array Value) (orp : Own) (vr : Value) (LR : List (List Value)) (T : World → Prop) : Prop where
  base : Mk S B gt gr gf w0 w I ex vl vm v n M o
  row : w.heap[gp]? = some (.cells row 50 (0, 0))
  rep : RowsOwn w orp 3 vr LR
  repq : ∀ r ∈ LR, ∃ u v a b, r = frRow u v ∧ Sup M w (fun w' => One w' u a ∧ One w' v b) ∧ 0 < b
  mem : M gp ∧ ∀ k, orp k → M k
  far : gf < gp ∧ ∀ k, orp k → gp < k
  apart : ∀ i, i < 4 → Apart (o i) (Or (Just gp) orp)
  froz : Sup M w T
section
variable {S T : World → Prop} {B gt gr gf gp I : Nat} {w0 w w' : World} {ex : Int} {vl vm : Value} {v : Nat → Value} {n : Nat → Nat} {M : Own} {o : Nat → Own} {row : Array Value} {orp : Own} {vr : Value} {LR : List (List Value)}
theorem Pm.start (h : Mk S B gt gr gf w0 w I ex vl vm v n M o) (hT : Sup M w T) {row : Array Value} (hb : Below w.heap.size w w') (hg : w'.heap[w.heap.size]? = some (.cells row 50 (0, 0))) : Pm S B gt gr gf w.heap.size w0 w' I ex vl vm v n (Or M (Just w.heap.size)) o row NoOwn (.slice none 0 0) [] T := by
  have hm : Mv M w (Or M (Just w.heap.size)) w' := ⟨.ofBelow hb, fun k e => by
    rcases e with e | e
    · exact .inl e
    · exact .inr (by rw [show k = w.heap.size from e]; exact Nat.le_refl _)⟩
  have hsz : w.heap.size < w'.heap.size := (Array.getElem?_eq_some_iff.1 hg).1
  refine ⟨h.other hm (fun k e => .inl e) ((h.under.mv hb.size).or (fun k e => by rw [show k = w.heap.size from e]; exact hsz)) (o2 := NoOwn) (.ofBelow hb) (fun _ e => e.elim) (fun _ _ _ _ b => b) (fun e => e) (fun e => e) (h.tape.below hb), hg, RowsOwn.nil _ _ _, (fun r hr => by cases hr), ⟨.inr rfl, fun _ e => e.elim⟩, ⟨h.lt, fun _ e => e.elim⟩, fun i hi k a b => ?_, hT.mv hm⟩
  have := h.under k (h.sub i hi k a).1
  rcases b with b | b
  · have : k = w.heap.size := b
    omega
  · exact b
theorem Pm.turn {I' : Nat} (h : Pm S B gt gr gf gp w0 w I ex vl vm v n M o row orp vr LR T) {o2 : Own} (hf : Fr o2 w w') (h2 : ∀ k, o2 k → M k) (ha : ∀ i, i < 4 → Apart (o i) o2) (hr : ¬ o2 gr) (hg : ¬ o2 gf) (hp : ¬ o2 gp) (hx : Apart orp o2) (ht : TapeAt w' gt I') : Pm S B gt gr gf gp w0 w' I' ex vl vm v n M o row orp vr LR T :=
  ⟨h.base.other ⟨hf.mono h2, fun _ e => .inl e⟩ (fun _ e => e) (h.base.under.mv hf.size) hf h2 ha hr hg ht, (hf.block gp (h.base.under _ h.mem.1) hp).trans h.row, h.rep.fr hf hx, fun r hr => by
    obtain ⟨u, v, a, b, e, hs, hb⟩ := h.repq r hr
    exact ⟨u, v, a, b, e, hs.fr (hf.mono h2), hb⟩, h.mem, h.far, h.apart, h.froz.fr (hf.mono h2)⟩
theorem Pm.below (h : Pm S B gt gr gf gp w0 w I ex vl vm v n M o row orp vr LR T) (hb : Below w.heap.size w w') : Pm S B gt gr gf gp w0 w' I ex vl vm v n M o row orp vr LR T :=
  h.turn (o2 := NoOwn) (.ofBelow hb) (fun _ e => e.elim) (fun _ _ _ _ b => b) (fun e => e) (fun e => e) (fun e => e) (fun _ _ b => b) (h.base.tape.below hb)
theorem Pm.next_call (h : Pm S B gt gr gf gp w0 w I ex vl vm v n M o row orp vr LR T) (hI : I ≤ 1000000) (k : Nat) (h1 : 1 ≤ k) (hk : k ≤ 1000) :
    Calls Try.prog 11 #[.pointer (some ⟨gt, 0, none⟩), .int .i64 (k : Int)] w fun e w' => ∃ r : Nat, r < k ∧ e = .returned (.int .i64 (r : Int)) ∧ Pm S B gt gr gf gp w0 w' (I + 1) ex vl vm v n M o row orp vr LR T := by
  refine (next_any h.base.tape hI k h1 hk).mono ?_
  rintro e w' ⟨r, hr, rfl, ht, hf⟩
  have ho := h.base.order
  have hfar := h.far
  refine ⟨r, hr, rfl, h.turn hf (fun k e => by rw [show k = gt from e]; exact h.base.mem.1) (fun i hi k a b => ?_) (fun e => ?_) (fun e => ?_) (fun e => ?_) (fun k a b => ?_) ht⟩
  · have := (h.base.sub i hi k a).2
    have : k = gt := b
    omega
  · have : gr = gt := e
    omega
  · have : gf = gt := e
    omega
  · have : gp = gt := e
    omega
  · have := hfar.2 k a
    have : k = gt := b
    omega
/-- A field of the policy is stored. -/
theorem Pm.set (h : Pm S B gt gr gf gp w0 w I ex vl vm v n M o row orp vr LR T) (fi : Nat) (x : Value) {row' : Array Value} (hr : row.setIfInBounds fi x = row') {T' : World → Prop} (hT : Sup M w T') : Pm S B gt gr gf gp w0 (w.setCell ⟨gp, fi, none⟩ x) I ex vl vm v n M o row' orp vr LR T' := by
  subst hr
  have hf : Fr (Just gp) w (w.setCell ⟨gp, fi, none⟩ x) := (Fr.refl (Just gp) w).setCell ⟨gp, fi, none⟩ _ (.inl rfl)
  have hs : ∀ k, Just gp k → M k := fun k e => by rw [show k = gp from e]; exact h.mem.1
  have ho := h.base.order
  have hfar := h.far
  refine ⟨h.base.other ⟨hf.mono hs, fun _ e => .inl e⟩ (fun _ e => e) (h.base.under.mv hf.size) hf hs (fun i hi k a b => h.apart i hi k a (.inl b)) (fun e => ?_) (fun e => ?_) (h.base.tape.fr hf (fun k e => ?_)), heap_setCell_same w gp fi _ _ x h.row, h.rep.fr hf (fun k a b => ?_), fun r hr => by
    obtain ⟨u, v, a, b, e, hs', hb⟩ := h.repq r hr
    exact ⟨u, v, a, b, e, hs'.fr (hf.mono hs), hb⟩, h.mem, h.far, h.apart, hT.fr (hf.mono hs)⟩
  · have : gr = gp := e
    omega
  · have : gf = gp := e
    omega
  · have : k = gp := e
    omega
  · have := hfar.2 k a
    have : k = gp := b
    omega
theorem Pm.cells (h : Pm S B gt gr gf gp w0 w I ex vl vm v n M o row orp vr LR T) (fi : Nat) : w.cell? ⟨gp, fi, none⟩ = row[fi]? := cell_block h.row fi
theorem Pm.free (h : Pm S B gt gr gf gp w0 w I ex vl vm v n M o row orp vr LR T) (fi : Nat) : w.frozen? ⟨gp, fi, none⟩ = false := frozen_of_row _ _ _ _ _ h.row
/-- One rate more. -/
theorem Pm.rate {row' : Array Value} (h : Pm S B gt gr gf gp w0 w I ex vl vm v n M o row orp vr LR T) {Wc w6 : World} {v6 u x : Value} {a b : Nat} (hr : row.setIfInBounds 10 v6 = row') (hA : AddPost 50 w Wc w6 gp 10 orp 3 row v6 LR (frRow u x)) (hs : Sup M Wc fun w' => One w' u a ∧ One w' x b) (hb : 0 < b) :
    Pm S B gt gr gf gp w0 (w6.setCell ⟨gp, 10, none⟩ v6) I ex vl vm v n (Or M (Grow orp Wc w6)) o row' (Grow orp Wc w6) v6 (LR ++ [frRow u x]) T := by
  subst hr
  have hsub : ∀ k, Or (Just gp) orp k → M k := fun k e => by
    rcases e with e | e
    · rw [show k = gp from e]; exact h.mem.1
    · exact h.mem.2 k e
  have hm : Mv M w (Or M (Grow orp Wc w6)) (w6.setCell ⟨gp, 10, none⟩ v6) := ⟨hA.fr.mono hsub, fun k e => by
    rcases e with e | e
    · exact .inl e
    · rcases hA.ext k e with e | e
      · exact .inl (h.mem.2 k e)
      · exact .inr e⟩
  have ho := h.base.order
  have hfar := h.far
  have hgp := h.base.under _ h.mem.1
  have hgt : ∀ k, Grow orp Wc w6 k → gp < k := fun k e => by
    rcases hA.ext k e with e | e
    · exact hfar.2 k e
    · omega
  refine ⟨h.base.other hm (fun k e => .inl e) ((h.base.under.mv hA.fr.size).or hA.under) hA.fr hsub h.apart (fun e => ?_) (fun e => ?_) (h.base.tape.fr hA.fr (fun k e => ?_)), hA.heap_, hA.own, fun r hr => ?_, ⟨.inl h.mem.1, fun k e => .inr e⟩, ⟨hfar.1, hgt⟩, fun i hi k a b => ?_, h.froz.mv hm⟩
  · rcases e with e | e
    · have : gr = gp := e
      omega
    · have := hfar.2 _ e
      omega
  · rcases e with e | e
    · have : gf = gp := e
      omega
    · have := hfar.2 _ e
      omega
  · rcases e with e | e
    · have : k = gp := e
      omega
    · have := hfar.2 _ e
      omega
  · rcases List.mem_append.1 hr with e | e
    · obtain ⟨u, v, a, b, e, hs', hb⟩ := h.repq r e
      exact ⟨u, v, a, b, e, hs'.mv hm, hb⟩
    · simp at e
      exact ⟨u, x, a, b, e, hA.sup M _ h.base.under hsub hs, hb⟩
  · rcases b with b | b
    · exact h.apart i hi k a (.inl b)
    · rcases hA.ext k b with e | e
      · exact h.apart i hi k a (.inr e)
      · have := h.base.under k (h.base.sub i hi k a).1
        omega
/-- The policy is made. -/
theorem Pm.done {nm : ByteArray} {K Mm : Nat} {Q s0 s1 s2 s3 s4 : Int} {vo u1 v1 u2 v2 : Value} (h : Pm S B gt gr gf gp w0 w I ex vl vm v n M o (polAgg nm K Mm Q s0 s1 s2 s3 s4 vo vr u1 v1 u2 v2) orp vr LR T) (hK : 1 ≤ K ∧ K ≤ 2) (hM : Mm ≤ 2)
    (hT : ∀ w', T w' → (∃ m, NumsAt w' vo m) ∧ (∃ a b, One w' u1 a ∧ One w' v1 b ∧ 0 < b) ∧ ∃ a b, One w' u2 a ∧ One w' v2 b ∧ 0 < b) :
    ∃ M2, Mk S B gt gr gf w0 w I ex vl vm v n M2 o ∧ Sup M2 w fun w' => PolOk w' K Mm Q s0 s1 s2 s3 s4 vo vr u1 v1 u2 v2 := by
  have ho := h.base.order
  have hfar := h.far
  have hm : Mv M w (fun k => M k ∧ k ≠ gp ∧ ¬ orp k) w := ⟨Fr.refl _ _, fun k e => .inl e.1⟩
  have hnot : ∀ k, k ≤ gf → k ≠ gp ∧ ¬ orp k := fun k hk => ⟨by omega, fun e => by have := hfar.2 k e; omega⟩
  refine ⟨fun k => M k ∧ k ≠ gp ∧ ¬ orp k, ⟨h.base.tape, h.base.res, h.base.row, fun i hi => (h.base.comp i hi).mv hm (Fr.refl NoOwn _) (fun _ _ b => b), h.base.apart, fun i hi k hk => ⟨⟨(h.base.sub i hi k hk).1, fun e => h.apart i hi k hk (.inl e), fun e => h.apart i hi k hk (.inr e)⟩, (h.base.sub i hi k hk).2⟩,
    ⟨⟨h.base.mem.1, hnot gt (by omega)⟩, ⟨h.base.mem.2.1, hnot gr (by omega)⟩, ⟨h.base.mem.2.2, hnot gf (by omega)⟩⟩, fun k e => h.base.under k e.1, fun k e => h.base.above k e.1, h.base.froz.mv hm, h.base.order, h.base.base⟩, fun w' hf => ?_⟩
  obtain ⟨h1, h2, h3⟩ := hT w' (h.froz.mv hm w' hf)
  refine ⟨⟨by omega, by omega⟩, ⟨by omega, by omega⟩, h1, ⟨LR.length, rows_frs (h.rep.fr hf (fun k a b => b.2.2 a)) fun r hr => ?_⟩, h2, h3⟩
  obtain ⟨u, v, a, b, e, hs', hb⟩ := h.repq r hr
  exact ⟨u, v, a, b, e, hs'.mv hm w' hf, hb⟩
end
theorem pol_size : (Try.prog.info? 50).map (·.size) = some 17 := by kernel_rfl
theorem pol_set {nm : ByteArray} {K Mm Q s0 s1 s2 s3 s4 : Int} {vo vr u1 v1 u2 v2 : Value} : (∀ x : Int, (polAgg nm K Mm Q s0 s1 s2 s3 s4 vo vr u1 v1 u2 v2).setIfInBounds 7 (.int .i64 x) = polAgg nm K Mm Q s0 s1 s2 x s4 vo vr u1 v1 u2 v2) ∧ (∀ x : Int, (polAgg nm K Mm Q s0 s1 s2 s3 s4 vo vr u1 v1 u2 v2).setIfInBounds 8 (.int .i64 x) = polAgg nm K Mm Q s0 s1 s2 s3 x vo vr u1 v1 u2 v2) ∧ (∀ x, (polAgg nm K Mm Q s0 s1 s2 s3 s4 vo vr u1 v1 u2 v2).setIfInBounds 9 x = polAgg nm K Mm Q s0 s1 s2 s3 s4 x vr u1 v1 u2 v2) ∧ ∀ x, (polAgg nm K Mm Q s0 s1 s2 s3 s4 vo vr u1 v1 u2 v2).setIfInBounds 10 x = polAgg nm K Mm Q s0 s1 s2 s3 s4 vo x u1 v1 u2 v2 := ⟨fun _ => rfl, fun _ => rfl, fun _ => rfl, fun _ => rfl⟩
end Go.Proofs.Ytpoaadjhaknhdaa
