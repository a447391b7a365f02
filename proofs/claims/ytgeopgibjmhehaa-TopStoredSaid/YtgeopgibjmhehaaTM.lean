/- Pieces out of Near and their sectors; light. -/
import Derived.Test.YtgeopgibjmhehaaTL
namespace Go.Proofs.Ytgeopgibjmhehaa
open Go Go.RowKit Go.Sort

def nearP (p : Pc) : Pc := ⟨p.vol % 12, p.frag % 8, p.stripe % 4, 1 + p.gen % 1099511627775, 1 + p.ver % 1099511627775, ⟨(nearB p.data).toArray⟩⟩
def Pc.ok (p : Pc) : Bool := validB p.vol p.frag p.stripe p.gen p.ver p.data.size
theorem nearP_ok (p : Pc) : (nearP p).ok = true := by
  have := near_valid p.vol p.frag p.stripe p.gen p.ver 16 rfl
  have hs : (nearP p).data.size = 16 := by
    show (nearP p).data.data.size = 16
    rw [← Array.length_toList]
    exact nearB_length p.data
  unfold Pc.ok
  rw [hs]
  exact this
def encP (p : Pc) : ByteArray := ⟨(encL p.vol p.frag p.stripe p.gen p.ver p.data.data.toList).toArray⟩
theorem ok_len {p : Pc} (hv : p.ok = true) : p.data.data.toList.length = 16 := by
  unfold Pc.ok validB at hv
  rw [decide_eq_true_eq] at hv
  have := hv.2.2.2.2.2.2.2.2.2.2
  rw [Array.length_toList]
  exact this
theorem encP_size {p : Pc} (hv : p.ok = true) : (encP p).size = 36 := by
  show (encP p).data.size = 36
  rw [← Array.length_toList]
  exact encL_length _ _ _ _ _ _ (ok_len hv)
theorem encP_dec {p : Pc} (hv : p.ok = true) : errOf (encP p).data.toList = 0 ∧ pieceOf (encP p).data.toList = p := by
  have hv2 : validB p.vol p.frag p.stripe p.gen p.ver p.data.data.toList.length = true := by rw [Array.length_toList]; exact hv
  have hl : (encP p).data.toList = encL p.vol p.frag p.stripe p.gen p.ver p.data.data.toList := by unfold encP; simp
  rw [hl]
  obtain ⟨a0, a1, a2, a3, a4, a5, a6⟩ := dec_enc _ _ _ _ _ _ hv2
  refine ⟨a0, ?_⟩
  unfold pieceOf
  rw [if_pos a0, a1, a2, a3, a4, a5, a6]
theorem hd_length (x : Hd) : x.cells.length = 7 := rfl
/-- Pieces that came in. -/
abbrev HeldsAt (w : World) (v : Value) (l : List Hd) : Prop := ArgSl w 7 v l.length (l.flatMap Hd.cells)
theorem HeldsAt.cell {w : World} {b off : Nat} {l : List Hd} (h : ∀ j u, (l.flatMap Hd.cells)[j]? = some u → w.cell? ⟨b, off + j, none⟩ = some u) (k : Nat) (hk : k < l.length) (j : Nat) (u : Value) (hj : j < 7) (hv : l[k].cells[j]? = some u) :
    w.cell? ⟨b, off + k * 7 + j, none⟩ = some u := by
  rw [Nat.add_assoc]
  exact h _ _ ((flat_get Hd.cells 7 hd_length l k hk j hj).trans hv)
/-- Few and short. -/
def Light27 (l1 : List Hd) (n : Nat) (w : World) (e : Ending) (w' : World) : Prop := ∃ r, e = .returned (.bool r) ∧ (r = true → l1.length ≤ 60 ∧ (∀ x ∈ l1, x.pc.data.size ≤ 100) ∧ n ≤ 60) ∧ w = w'
end Go.Proofs.Ytgeopgibjmhehaa

/- Prepared. -/
namespace Go.Proofs.Ytgeopgibjmhehaa
open Go Go.RowKit Go.Sort

def zflt : Flt := ⟨0, 0, 0, 0, 0⟩
theorem Fine.put {S : Dv} {n m : Nat} (h : Fine S n m 0) (s : Int) (h0 : 0 ≤ s) (h1 : s < n) (d : ByteArray) (hd : d.size = 36) : Fine (S.step ⟨1, 0, s, d, zflt⟩) n m 0 := by
  obtain ⟨k, rfl⟩ := Int.eq_ofNat_of_zero_le h0
  obtain ⟨e, h2⟩ := h.write k (by omega) d hd
  show Fine (S.write 0 (k : Int) d).2 n m 0
  rw [e]
  exact h2
/-- What Prepared answers. -/
def Prep (w : World) (c r : Int) (clean : Prop) (n : Nat) (e : Ending) (w' : World) : Prop := ∃ a b o1 o2 S, e = .returned (.tuple #[.agg #[.pointer (some ⟨a, 0, none⟩), .pointer (some ⟨b, 0, none⟩)], .bool true]) ∧ Both w' o1 o2 a b S ∧ S.Ok ∧ S.pend.length ≤ n ∧ Above w.heap.size (Or o1 o2) ∧ Below w.heap.size w w' ∧ (clean → Fine S (mkC c).toNat (mkR c r) 0)
end Go.Proofs.Ytgeopgibjmhehaa

/- Arguments: pieces held, pieces wanted. -/
namespace Go.Proofs.Ytgeopgibjmhehaa
open Go Go.RowKit Go.Sort Go.ChangeShapes Go.WideShapes Go.Deep
section
variable {H : Type} {enc : TypeId × Value → H} {w : World} {base : Nat} {spare : Nat → Bool} {held : Bool}
set_option maxRecDepth 100000 in
theorem held_one (fuel : Nat) (cs : List Value) (x : DataW H × List MemPlace) (h : DataW.trod enc Try.prog w base spare held fuel 48 cs = some x) : ∃ a, cs = Hd.cells a := by
  obtain ⟨xs, n, _, _, hlen, hxl, hfield⟩ := DataW.trod_struct Try.underlying48 h
  rw [show Try.prog.cellsOf 48 = 7 by kernel_rfl] at hlen
  match cs, hlen with
  | [a0, a1, a2, a3, a4, a5, a6], _ =>
    have hx : ∀ j, j < 2 → ∃ y, xs[j]? = some y := fun j hj => ⟨_, List.getElem?_eq_getElem (by rw [hxl]; exact hj)⟩
    have c1 : Try.prog.cellsOf 3 = 1 := by kernel_rfl
    have c2 : Try.prog.cellsOf 9 = 1 := by kernel_rfl
    have c6 : Try.prog.cellsOf 35 = 6 := by kernel_rfl
    obtain ⟨y0, e0⟩ := hx 0 (by omega)
    obtain ⟨y1, e1⟩ := hx 1 (by omega)
    have z0 := (hfield 0 _ rfl).trans e0
    have z1 := (hfield 1 _ rfl).trans e1
    change DataW.trod enc Try.prog w base spare held n 3 ((List.drop 0 [a0, a1, a2, a3, a4, a5, a6]).take (Try.prog.cellsOf 3)) = some y0 at z0
    change DataW.trod enc Try.prog w base spare held n 35 ((List.drop 1 [a0, a1, a2, a3, a4, a5, a6]).take (Try.prog.cellsOf 35)) = some y1 at z1
    rw [c1] at z0
    rw [c6] at z1
    obtain ⟨k, u0, _, _⟩ := DataW.trod_int Try.underlying3 z0
    obtain ⟨ys, m, _, _, _, hyl, hff⟩ := DataW.trod_struct Try.underlying35 z1
    have hy : ∀ j, j < 6 → ∃ y, ys[j]? = some y := fun j hj => ⟨_, List.getElem?_eq_getElem (by rw [hyl]; exact hj)⟩
    obtain ⟨y0, e0⟩ := hy 0 (by omega)
    obtain ⟨y1, e1⟩ := hy 1 (by omega)
    obtain ⟨y2, e2⟩ := hy 2 (by omega)
    obtain ⟨y3, e3⟩ := hy 3 (by omega)
    obtain ⟨y4, e4⟩ := hy 4 (by omega)
    obtain ⟨y5, e5⟩ := hy 5 (by omega)
    have w0 := (hff 0 _ rfl).trans e0
    have w1 := (hff 1 _ rfl).trans e1
    have w2 := (hff 2 _ rfl).trans e2
    have w3 := (hff 3 _ rfl).trans e3
    have w4 := (hff 4 _ rfl).trans e4
    have w5 := (hff 5 _ rfl).trans e5
    change DataW.trod enc Try.prog w base spare held m 3 ((List.drop 0 [a1, a2, a3, a4, a5, a6]).take (Try.prog.cellsOf 3)) = some y0 at w0
    change DataW.trod enc Try.prog w base spare held m 3 ((List.drop 1 [a1, a2, a3, a4, a5, a6]).take (Try.prog.cellsOf 3)) = some y1 at w1
    change DataW.trod enc Try.prog w base spare held m 3 ((List.drop 2 [a1, a2, a3, a4, a5, a6]).take (Try.prog.cellsOf 3)) = some y2 at w2
    change DataW.trod enc Try.prog w base spare held m 3 ((List.drop 3 [a1, a2, a3, a4, a5, a6]).take (Try.prog.cellsOf 3)) = some y3 at w3
    change DataW.trod enc Try.prog w base spare held m 3 ((List.drop 4 [a1, a2, a3, a4, a5, a6]).take (Try.prog.cellsOf 3)) = some y4 at w4
    change DataW.trod enc Try.prog w base spare held m 9 ((List.drop 5 [a1, a2, a3, a4, a5, a6]).take (Try.prog.cellsOf 9)) = some y5 at w5
    rw [c1] at w0 w1 w2 w3 w4
    rw [c2] at w5
    obtain ⟨f0, v0, _, _⟩ := DataW.trod_int Try.underlying3 w0
    obtain ⟨f1, v1, _, _⟩ := DataW.trod_int Try.underlying3 w1
    obtain ⟨f2, v2, _, _⟩ := DataW.trod_int Try.underlying3 w2
    obtain ⟨f3, v3, _, _⟩ := DataW.trod_int Try.underlying3 w3
    obtain ⟨f4, v4, _, _⟩ := DataW.trod_int Try.underlying3 w4
    obtain ⟨f5, v5, _, _⟩ := DataW.trod_string Try.underlying9 w5
    simp at u0 v0 v1 v2 v3 v4 v5
    subst u0 v0 v1 v2 v3 v4 v5
    exact ⟨⟨k, ⟨f0, f1, f2, f3, f4, f5⟩⟩, rfl⟩
set_option maxRecDepth 100000 in
theorem open_helds {r : Reach} {b0 : Nat} {v : Value} {d : DataW H} {ps : List MemPlace} (hv : Value.okWide Try.prog w r b0 44 v) (h : DataW.Trod enc Try.prog w base spare held 44 v d ps) : ∃ l, HeldsAt w v l :=
  open_rows Hd.cells 7 hd_length (by omega) Try.underlying44 (by kernel_rfl) held_one hv h
end
end Go.Proofs.Ytgeopgibjmhehaa

/- A Want by value; a drive that is offline. -/
namespace Go.Proofs.Ytgeopgibjmhehaa
open Go Go.RowKit Go.Sort Go.ChangeShapes Go.WideShapes Go.Deep
section
variable {H : Type} {enc : TypeId × Value → H} {w : World} {base : Nat} {spare : Nat → Bool} {held : Bool}
end
theorem no_ops (w : World) : OpsAt w (.slice none 0 0) [] := ⟨rfl, by unfold maxLen; simp, none, 0, rfl, fun h => by simp at h⟩
theorem Fine.up {S : Dv} {n m : Nat} {t : Int} (h : Fine S n m 0) (ht : 0 ≤ t) : Fine S n m t := ⟨h.ok, h.claim, h.real, h.on, h.pend, by have := h.term; omega⟩
theorem Ref.sectors {w : World} {o : Own} {a : Nat} {S : Dv} (h : Ref w o a S) : ∃ b c, w.cell? ⟨a, 1, none⟩ = some (.slice (some ⟨b, 0, none⟩) S.secs.length c) := by
  obtain ⟨R, ⟨p, b, c, pv, h⟩, hr⟩ := h
  refine ⟨b, c, ?_⟩
  have := h.cells.2.1
  rwa [hr.len] at this
theorem read_off {S : Dv} (h : S.online = false) (s : Int) : S.read s = (⟨#[]⟩, 105) := by unfold Dv.read; rw [if_pos h]
theorem inv_off {S : Dv} (h : S.online = false) : invOf S = [] := by unfold invOf; rw [if_neg (by rw [h]; simp)]
theorem state_off {S : Dv} (h : S.online = false) (q : Wt) : stateOf S q = 9 := by
  unfold stateOf
  rw [read_off h, if_pos rfl]
end Go.Proofs.Ytgeopgibjmhehaa

/- ScrubOrders: a piece that was written, seen. -/
namespace Go.Proofs.Ytgeopgibjmhehaa
open Go Go.RowKit Go.Sort

theorem state_read {S : Dv} {s : Int} {x : ByteArray} (h : S.read s = (x, 0)) (q : Pc) : stateOf S ⟨s, q⟩ = seen x q := by
  unfold stateOf
  dsimp only
  rw [h, if_neg (by simp), if_neg (by simp), if_neg (by simp)]
theorem seen_enc {p : Pc} (hp : p.ok = true) (q : Pc) : seen (encP p) q = found p q := by
  obtain ⟨h0, h1⟩ := encP_dec hp
  unfold seen
  rw [h0, if_neg (by decide), if_neg (by decide), h1]
theorem seen_blank (q : Pc) : seen blank q = 2 := by
  unfold seen
  rw [if_pos err_blank_sec]
/-- A drive of New after one piece was written. -/
theorem put_one (n : Nat) (h1 : 1 ≤ n) (h2 : n ≤ 128) (k : Nat) (hk : k < n) {d : ByteArray} (hd : d.size = 36) :
    ∃ S, (newDv n n).write 0 k d = (0, S) ∧ Fine S n n 0 ∧ S.read k = (d, 0) ∧ (∀ j : Nat, j < n → j ≠ k → S.read j = (blank, 0)) ∧ S = setAt (newDv n n) 0 k d := by
  obtain ⟨e, hf⟩ := (fine_new n n 0 h1 (Nat.le_refl _) h2 (by omega)).write k hk d hd
  rw [Nat.mod_eq_of_lt hk] at e hf
  refine ⟨_, e, hf, ?_, fun j hj hne => ?_, rfl⟩
  · refine hf.read k hk (x := ⟨d, false, false⟩) ?_ rfl
    rw [Nat.mod_eq_of_lt hk]
    show ((newDv n n).secs.set k _)[k]? = _
    rw [List.getElem?_set_self (by simp [newDv]; exact hk)]
  · refine hf.read j hj (x := blankSec) ?_ rfl
    rw [Nat.mod_eq_of_lt hj]
    show ((newDv n n).secs.set k _)[j]? = _
    rw [List.getElem?_set_ne (Ne.symm hne)]
    simp [newDv, hj]
end Go.Proofs.Ytgeopgibjmhehaa
