/- The walks of the laws SectorValid, SectorEncodes, SectorSums, SectorBack. -/
import Derived.Test.YtmgghigongjjcaaAwake
namespace Go.Proofs.Ytmgghigongjjcaa
open Go.RowKit Go.Sort

theorem valid_prog_b (v f s g ve : Int) (d : ByteArray) (w : World) :
    Calls Try.prog 13 #[.agg #[.int .i64 v, .int .i64 f, .int .i64 s, .int .i64 g, .int .i64 ve, .string d]] w fun e w' => e = .returned (.bool (validB v f s g ve d.size)) ∧ Below w.heap.size w w' :=
  (valid_prog v f s g ve d w).mono fun _ _ ⟨he, hw⟩ => ⟨he, by rw [← hw]; exact (Below.refl _ _).alloc (Nat.le_refl _) _⟩
theorem valid_ref_b (v f s g ve : Int) (d : ByteArray) (w : World) :
    Calls Try.prog 14 #[.agg #[.int .i64 v, .int .i64 f, .int .i64 s, .int .i64 g, .int .i64 ve, .string d]] w fun e w' => e = .returned (.bool (validB v f s g ve d.size)) ∧ Below w.heap.size w w' :=
  (valid_ref v f s g ve d w).mono fun _ _ ⟨he, hw⟩ => ⟨he, by rw [← hw]; exact (Below.refl _ _).alloc (Nat.le_refl _) _⟩
theorem near_b (v f s g ve : Int) (d : ByteArray) (w : World) (hd : d.size ≤ maxLen) :
    Calls Try.prog 15 #[.agg #[.int .i64 v, .int .i64 f, .int .i64 s, .int .i64 g, .int .i64 ve, .string d]] w fun e w' =>
      e = .returned (.agg #[.int .i64 (v % 12), .int .i64 (f % 8), .int .i64 (s % 4), .int .i64 (1 + g % 1099511627775), .int .i64 (1 + ve % 1099511627775), str (nearB d)]) ∧ Below w.heap.size w w' := near_any v f s g ve d w hd

/-- The cells of a piece in every world in which the old blocks are as they were. -/
theorem Piece.regrown {w : World} {b : Nat} {v f s g ve : Int} {d : ByteArray} {t : TypeId} (h : Piece w b v f s g ve d t) :
    (∀ n os, (grow (redrawn w n) os).cell? ⟨b, 0, none⟩ = some (.int .i64 v)) ∧ (∀ n os, (grow (redrawn w n) os).cell? ⟨b, 1, none⟩ = some (.int .i64 f)) ∧ (∀ n os, (grow (redrawn w n) os).cell? ⟨b, 2, none⟩ = some (.int .i64 s)) ∧
    (∀ n os, (grow (redrawn w n) os).cell? ⟨b, 3, none⟩ = some (.int .i64 g)) ∧ (∀ n os, (grow (redrawn w n) os).cell? ⟨b, 4, none⟩ = some (.int .i64 ve)) ∧ (∀ n os, (grow (redrawn w n) os).cell? ⟨b, 5, none⟩ = some (.string d)) := by
  obtain ⟨c0, c1, c2, c3, c4, c5⟩ := h.cells
  exact ⟨cell_regrown c0, cell_regrown c1, cell_regrown c2, cell_regrown c3, cell_regrown c4, cell_regrown c5⟩

set_option maxHeartbeats 1000000 in
theorem law_valid (v f s g ve : Int) (d : ByteArray) (w : World) (hd : d.size ≤ maxLen) :
    Calls Try.prog 3 #[.agg #[.int .i64 v, .int .i64 f, .int .i64 s, .int .i64 g, .int .i64 ve, .string d]] w fun e w' => e = .returned (.bool true) ∧ Below w.heap.size w w' := by
  have HNV := hid (near_valid v f s g ve (nearB d).length (nearB_length d))
  have HD := hid hd
  clear hd
  go_enter Try.func3, Try.ntmps3
  go_wp2_with fail
  have hp := piece_new w v f s g ve d 23
  have hb : Below w.heap.size w (w.alloc (.cells #[.int .i64 v, .int .i64 f, .int .i64 s, .int .i64 g, .int .i64 ve, .string d] 23)) := (Below.refl _ _).alloc (Nat.le_refl _) _
  generalize w.alloc (.cells #[.int .i64 v, .int .i64 f, .int .i64 s, .int .i64 g, .int .i64 ve, .string d] 23) = w1 at hp hb ⊢
  obtain ⟨c0, c1, c2, c3, c4, c5⟩ := hp.regrown
  refine wp_region_quiet_below (by kernel_rfl) (by kernel_rfl) ?_
  repeat (go_big_quiet_step ((first | (go_at_call 12; exact Calls.regrown_of (awake_any _)) | (go_at_call 13; exact Calls.regrown_of (valid_prog_b _ _ _ _ _ _ _)) | (go_at_call 14; exact Calls.regrown_of (valid_ref_b _ _ _ _ _ _ _)) | (go_at_call 15; exact Calls.regrown_of (near_b _ _ _ _ _ _ _ HD.out)))))
  refine wpQuiet_nil ?_
  rintro _ ⟨p, rfl⟩
  have hb2 := hb.trans ((below_regrown w1 p.d p.os).mono hb.size)
  go_wp2
  go_ret
  exact ⟨ret_bool HNV.out, hb2⟩
end Go.Proofs.Ytmgghigongjjcaa
