/- ScrubOrders: a piece that was written, seen. -/
import Derived.Test.YtegekmdechcikaaSC
namespace Go.Proofs.Ytegekmdechcikaa
open Go Go.RowKit Go.Sort

theorem state_read {S : Dv} {s : Int} {x : ByteArray} (h : S.read s = (x, 0)) (q : Pc) : stateOf S ⟨s, q⟩ = seen x q := by
  unfold stateOf
  dsimp only
  rw [h, if_neg (by simp), if_neg (by simp), if_neg (by simp)]
theorem seen_enc {p : Pc} (hp : p.ok = true) (q : Pc) : seen (encP p) q = found p q := by
  obtain ⟨h0, h1⟩ := encP_dec hp
  unfold seen
  rw [h0, if_neg (by decide), if_neg (by decide), h1]
theorem seen_blank (q : Pc) : seen blank q = 2 := by
  unfold seen
  rw [if_pos err_blank_sec]
/-- A drive of New after one piece was written. -/
theorem put_one (n : Nat) (h1 : 1 ≤ n) (h2 : n ≤ 128) (k : Nat) (hk : k < n) {d : ByteArray} (hd : d.size = 36) :
    ∃ S, (newDv n n).write 0 k d = (0, S) ∧ Fine S n n 0 ∧ S.read k = (d, 0) ∧ (∀ j : Nat, j < n → j ≠ k → S.read j = (blank, 0)) ∧ S = setAt (newDv n n) 0 k d := by
  obtain ⟨e, hf⟩ := (fine_new n n 0 h1 (Nat.le_refl _) h2 (by omega)).write k hk d hd
  rw [Nat.mod_eq_of_lt hk] at e hf
  refine ⟨_, e, hf, ?_, fun j hj hne => ?_, rfl⟩
  · refine hf.read k hk (x := ⟨d, false, false⟩) ?_ rfl
    rw [Nat.mod_eq_of_lt hk]
    show ((newDv n n).secs.set k _)[k]? = _
    rw [List.getElem?_set_self (by simp [newDv]; exact hk)]
  · refine hf.read j hj (x := blankSec) ?_ rfl
    rw [Nat.mod_eq_of_lt hj]
    show ((newDv n n).secs.set k _)[j]? = _
    rw [List.getElem?_set_ne (Ne.symm hne)]
    simp [newDv, hj]
theorem want_cells {w : World} {b : Nat} {x : Wt} (h : ValsAt w b x.cells) : w.cell? ⟨b, 0, none⟩ = some (.int .i64 x.slot) ∧ w.cell? ⟨b, 1, none⟩ = some (.int .i64 x.pc.vol) ∧ w.cell? ⟨b, 2, none⟩ = some (.int .i64 x.pc.frag) ∧ w.cell? ⟨b, 3, none⟩ = some (.int .i64 x.pc.stripe) ∧ w.cell? ⟨b, 4, none⟩ = some (.int .i64 x.pc.gen) ∧ w.cell? ⟨b, 5, none⟩ = some (.int .i64 x.pc.ver) ∧ w.cell? ⟨b, 6, none⟩ = some (.string x.pc.data) :=
  ⟨h.cell 0 (by simp), h.cell 1 (by simp), h.cell 2 (by simp), h.cell 3 (by simp), h.cell 4 (by simp), h.cell 5 (by simp), h.cell 6 (by simp)⟩
theorem ints_1 {w : World} {o : Own} {v : Value} {x : Int} (h : Ints w o v [x]) : ∃ g off c, v = .slice (some ⟨g, off, none⟩) 1 c ∧ w.cell? ⟨g, off, none⟩ = some (.int .i64 x) := by
  obtain ⟨g, off, c, rfl, _, _, _, _, hc, _⟩ := OwnSl.some_ h (by simp)
  exact ⟨g, off, c, rfl, hc 0 _ rfl⟩
end Go.Proofs.Ytegekmdechcikaa
