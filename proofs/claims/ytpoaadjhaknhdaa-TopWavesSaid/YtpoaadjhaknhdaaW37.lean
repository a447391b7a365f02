/- The maker: the calls while the fleet is made. -/
import Derived.Test.YtpoaadjhaknhdaaW36
namespace Go.Proofs.Ytpoaadjhaknhdaa
open Go Go.RowKit Go.Sort Go.Deep

theorem Comp.snoc {B i : Nat} {M M' o' : Own} {w w' : World} {v' : Value} {L : List (List Value)} {row : List Value} (hQ : ∀ j (h : j < L.length), QQ B M w i j L[j]) (hm : Mv M w M' w') (hR : RowsOwn w' o' (szz i) v' (L ++ [row])) (hn : QQ B M' w' i L.length row) : Comp B M' w' i o' v' (L.length + 1) := by
  refine ⟨L ++ [row], by simp, hR, fun j hj => ?_⟩
  rcases Nat.lt_or_ge j L.length with h | h
  · rw [List.getElem_append_left h]
    exact (hQ j h).mv hm
  · obtain rfl : j = L.length := by simp at hj; omega
    simpa using hn
section
variable {S : World → Prop} {B gt gr gf I : Nat} {w0 w w' : World} {ex : Int} {vl vm : Value} {v : Nat → Value} {n : Nat → Nat} {M : Own} {o : Nat → Own}
theorem Mk.addMv (h : Mk S B gt gr gf w0 w I ex vl vm v n M o) {i : Nat} (hi : i < 4) {oi : Own} (hf : Fr (Or (Just gf) (o i)) w w') (he : ∀ k, oi k → o i k ∨ w.heap.size ≤ k) : Mv M w (Or M oi) w' :=
  ⟨hf.mono (fun k e => by
    rcases e with e | e
    · rw [show k = gf from e]; exact h.mem.2.2
    · exact (h.sub i hi k e).1), fun k e => by
    rcases e with e | e
    · exact .inl e
    · rcases he k e with e | e
      · exact .inl (h.sub i hi k e).1
      · exact .inr e⟩
/-- A list has got the row that was appended. -/
theorem Mk.grow (i : Nat) (hi : i < 4) (h : Mk S B gt gr gf w0 w I ex vl vm v n M o) {L : List (List Value)} {row : List Value} {Wc w6 : World} {v6 : Value} {fi : Nat} (hL : L.length = n i) (hQ : ∀ j (h : j < L.length), QQ B M w i j L[j])
    (hA : AddPost 33 w Wc w6 gf fi (o i) (szz i) (fleetArr ex vl vm (v 0) (v 1) (v 2) (v 3)) v6 L row) (hset : (fleetArr ex vl vm (v 0) (v 1) (v 2) (v 3)).setIfInBounds fi v6 = fleetArr ex vl vm (upd v i v6 0) (upd v i v6 1) (upd v i v6 2) (upd v i v6 3))
    (hq : QQ B (Or M (Grow (o i) Wc w6)) (w6.setCell ⟨gf, fi, none⟩ v6) i L.length row) : Mk S B gt gr gf w0 (w6.setCell ⟨gf, fi, none⟩ v6) I ex vl vm (upd v i v6) (upd n i (n i + 1)) (Or M (Grow (o i) Wc w6)) (upd o i (Grow (o i) Wc w6)) := by
  refine h.add i hi hA.fr hA.ext hA.under ?_ ?_
  · rw [← hset]; exact hA.heap_
  · rw [← hL]
    exact Comp.snoc hQ (h.addMv hi hA.fr hA.ext) hA.own hq
end
/-- The same, with the numbers of rows alone in sight. -/
def MkE (S : World → Prop) (B gt gr gf : Nat) (w0 : World) (ex : Int) (vl vm : Value) (I n0 n1 n2 n3 : Nat) (w : World) : Prop := ∃ v n M o, Mk S B gt gr gf w0 w I ex vl vm v n M o ∧ n 0 = n0 ∧ n 1 = n1 ∧ n 2 = n2 ∧ n 3 = n3
section
variable {S : World → Prop} {B gt gr gf I n0 n1 n2 n3 : Nat} {w0 w w' : World} {ex : Int} {vl vm : Value}
theorem MkE.below (h : MkE S B gt gr gf w0 ex vl vm I n0 n1 n2 n3 w) (hb : Below w.heap.size w w') : MkE S B gt gr gf w0 ex vl vm I n0 n1 n2 n3 w' := by
  obtain ⟨v, n, M, o, hm, hn⟩ := h
  exact ⟨v, n, M, o, hm.below hb, hn⟩
theorem MkE.setB (h : MkE S B gt gr gf w0 ex vl vm I n0 n1 n2 0 w) (B' : Nat) : MkE S B' gt gr gf w0 ex vl vm I n0 n1 n2 0 w := by
  obtain ⟨v, n, M, o, hm, e0, e1, e2, e3⟩ := h
  refine ⟨v, n, M, o, ⟨hm.tape, hm.res, hm.row, fun i hi => ?_, hm.apart, hm.sub, hm.mem, hm.under, hm.above, hm.froz, hm.order, hm.base⟩, e0, e1, e2, e3⟩
  obtain ⟨L, hL, hR, hQ⟩ := hm.comp i hi
  refine ⟨L, hL, hR, fun j hj => ?_⟩
  match i, hi with
  | 0, _ => exact hQ j hj
  | 1, _ => exact hQ j hj
  | 2, _ => exact hQ j hj
  | 3, _ => omega
theorem next_mk (h : MkE S B gt gr gf w0 ex vl vm I n0 n1 n2 n3 w) (hI : I ≤ 1000000) (k : Nat) (h1 : 1 ≤ k) (hk : k ≤ 1000) :
    Calls Try.prog 11 #[.pointer (some ⟨gt, 0, none⟩), .int .i64 (k : Int)] w fun e w' => ∃ r : Nat, r < k ∧ e = .returned (.int .i64 (r : Int)) ∧ MkE S B gt gr gf w0 ex vl vm (I + 1) n0 n1 n2 n3 w' := by
  obtain ⟨v, n, M, o, hm, hn⟩ := h
  refine (next_any hm.tape hI k h1 hk).mono ?_
  rintro e w' ⟨r, hr, rfl, ht, hf⟩
  exact ⟨r, hr, rfl, v, n, M, o, hm.next ht hf, hn⟩
theorem dom_mk (h : MkE S B gt gr gf w0 ex vl vm I n0 n1 n2 n3 w) (h0 : 1 ≤ n0) (hn : n0 ≤ 100) (lv pa up : Int) (hl1 : -1000 ≤ lv) (hl2 : lv ≤ 1000) :
    Calls Try.prog 13 #[.pointer (some ⟨gf, 0, none⟩), .int .i64 lv, .int .i64 pa, .int .i64 up] w fun e w' => e = .returned (.int .i64 (n0 : Nat)) ∧ MkE S B gt gr gf w0 ex vl vm I (n0 + 1) n1 n2 n3 w' := by
  obtain ⟨v, n, M, o, hm, e0, e1, e2, e3⟩ := h
  obtain ⟨L, hL, hR, hQ⟩ := hm.comp 0 (by omega)
  refine (domain_any hm.row hR (fun k hk => (hm.sub 0 (by omega) k hk).2) (fun k hk => hm.under _ (hm.sub 0 (by omega) k hk).1) (by omega) lv pa up).mono ?_
  rintro e w' ⟨rfl, vd', od', s, u, vv, a, b, hrow, hR', hfr, hext, hund, hb0, hsup⟩
  refine ⟨by rw [hL, e0], upd v 0 vd', upd n 0 (L.length + 1), Or M od', upd o 0 od', hm.add 0 (by omega) hfr hext hund hrow ?_, by rw [upd_same, hL, e0], by rw [upd_ne _ _ _ (by omega), e1], by rw [upd_ne _ _ _ (by omega), e2], by rw [upd_ne _ _ _ (by omega), e3]⟩
  refine Comp.snoc hQ (hm.addMv (by omega) hfr hext) hR' ⟨s, lv, pa, up, u, vv, a, b, rfl, ?_, hb0, hl1, hl2, fun e => by omega⟩
  refine hsup M hm.under (fun k e => ?_)
  rcases e with e | e
  · rw [show k = gf from e]; exact hm.mem.2.2
  · exact (hm.sub 0 (by omega) k e).1
/-- What stands in the fleet's row. -/
theorem MkE.row (h : MkE S B gt gr gf w0 ex vl vm I n0 n1 n2 n3 w) : ∃ A0 c0 A1 c1 A2 c2 A3 c3, w.heap[gf]? = some (.cells (fleetArr ex vl vm (.slice A0 n0 c0) (.slice A1 n1 c1) (.slice A2 n2 c2) (.slice A3 n3 c3)) 33 (0, 0)) := by
  obtain ⟨v, n, M, o, hm, rfl, rfl, rfl, rfl⟩ := h
  obtain ⟨A0, c0, e0, _⟩ := (hm.comp 0 (by omega)).form
  obtain ⟨A1, c1, e1, _⟩ := (hm.comp 1 (by omega)).form
  obtain ⟨A2, c2, e2, _⟩ := (hm.comp 2 (by omega)).form
  obtain ⟨A3, c3, e3, _⟩ := (hm.comp 3 (by omega)).form
  refine ⟨A0, c0, A1, c1, A2, c2, A3, c3, ?_⟩
  rw [← e0, ← e1, ← e2, ← e3]
  exact hm.row
end
end Go.Proofs.Ytpoaadjhaknhdaa
