/- Text: a sector of a string; the sanity check. -/
import Derived.Test.YtegekmdechcikaaESame
namespace Go.Proofs.Ytegekmdechcikaa
open Go Go.RowKit Go.Sort

theorem Try.make36t : ∀ w, (Instr.makeSlice 90 (.int .i64 36) (.int .i64 36)).run Try.prog w = .ok (.slice (some ⟨w.heap.size, 0, none⟩) 36 36) (w.alloc (.cells (row (zeros 36)) 5)) := fun _ => by kernel_rfl

theorem blank_b (w : World) :
    Calls Try.prog 28 #[] w fun e w' => e = .returned (.string blank) ∧ Below w.heap.size w w' := by
  have hmk := Try.make36t
  have hcs := run_str (P := Try.prog) 90 5 9 Try.underlying90 Try.underlying5 Try.underlying9 (row_new w (zeros 36) 5) 0 36 36 (by simp [zeros])
  rw [List.drop_zero, List.take_of_length_le (by simp [zeros])] at hcs
  go_enter Try.func28, Try.ntmps28
  go_wp2
  go_ret
  exact ⟨rfl, (Below.refl _ _).alloc (Nat.le_refl _) _⟩

theorem below_of_fr {w0 w1 w2 : World} {B : Nat} {o : Own} (h : Below B w0 w1) (k : Fr o w1 w2) (ho : Above B o) (hB : B ≤ w1.heap.size) : Below B w0 w2 := h.trans (k.below ho hB)
theorem above_new {w w' : World} {B : Nat} (hB : B ≤ w.heap.size) : Above B (Grow NoOwn w w') := fun k e => by
  rcases e with e | e
  · exact e.elim
  · omega

end Go.Proofs.Ytegekmdechcikaa
