/- Encode of the program. -/
import Derived.Test.YtgeopgibjmhehaaTI
namespace Go.Proofs.Ytgeopgibjmhehaa
open Go.RowKit

theorem Try.makeBuf : ∀ w, (Instr.makeSlice 59 (.int .i64 36) (.int .i64 36)).run Try.prog w = .ok (.slice (some ⟨w.heap.size, 0, none⟩) 36 36) (w.alloc (.cells (row (zeros 36)) 5)) := fun _ => by kernel_rfl

theorem u8_size : (Try.prog.info? 5).map (·.size) = some 1 := by kernel_rfl

set_option maxHeartbeats 1000000 in
theorem enc_prog_no (v f s g ve : Int) (d : ByteArray) (w : World) (hv : validB v f s g ve d.size = false) :
    Calls Try.prog 8 #[.agg #[.int .i64 v, .int .i64 f, .int .i64 s, .int .i64 g, .int .i64 ve, .string d]] w fun e w' => e = .returned (.tuple #[.string ⟨#[]⟩, .int .i64 100]) ∧ Below w.heap.size w w' := by
  go_enter Try.func8, Try.ntmps8
  go_wp2_with (go_at_call 19; refine (valid_prog v f s g ve d _).mono ?_; rintro e w' ⟨rfl, rfl⟩; rw [hv])
  go_ret2
  exact ⟨rfl, ((Below.refl _ _).alloc (Nat.le_refl _) _).alloc (by simp) _⟩

set_option maxHeartbeats 1000000 in
theorem enc_prog_yes (v f s g ve : Int) (d : ByteArray) (w : World) (hv : validB v f s g ve d.size = true) :
    Calls Try.prog 8 #[.agg #[.int .i64 v, .int .i64 f, .int .i64 s, .int .i64 g, .int .i64 ve, .string d]] w fun e w' => e = .returned (.tuple #[str (encL v f s g ve d.data.toList), .int .i64 0]) ∧ Below w.heap.size w w' := by
  have hmk := Try.makeBuf
  have hbd := hv
  simp only [validB, decide_eq_true_eq] at hbd
  obtain ⟨v0, v1, fl0, fl1, s0, s1, g0, g1, e0, e1, hds⟩ := hbd
  have hdl : d.data.toList.length = 16 := by simpa using hds
  have HDL := hid hdl
  have HDS := hid hds
  clear hdl hds
  have sv : IntKind.u8.wrap v = v := by simp [IntKind.wrap, IntKind.bits, IntKind.signed]; omega
  have sf : IntKind.u8.wrap f = f := by simp [IntKind.wrap, IntKind.bits, IntKind.signed]; omega
  have ss : IntKind.u8.wrap s = s := by simp [IntKind.wrap, IntKind.bits, IntKind.signed]; omega
  go_enter Try.func8, Try.ntmps8
  go_wp2_with (go_at_call 19; refine (valid_prog v f s g ve d _).mono ?_; rintro e w' ⟨rfl, rfl⟩; rw [hv])
  have hp1 : Piece (((w.alloc (.cells #[.int .i64 v, .int .i64 f, .int .i64 s, .int .i64 g, .int .i64 ve, .string d] 35)).alloc (.cells #[.int .i64 v, .int .i64 f, .int .i64 s, .int .i64 g, .int .i64 ve, .string d] 35)).alloc (.cells (row (zeros 36)) 5)) w.heap.size v f s g ve d 35 := ((piece_new w v f s g ve d 35).alloc _).alloc _
  have hr1 : RowAt (((w.alloc (.cells #[.int .i64 v, .int .i64 f, .int .i64 s, .int .i64 g, .int .i64 ve, .string d] 35)).alloc (.cells #[.int .i64 v, .int .i64 f, .int .i64 s, .int .i64 g, .int .i64 ve, .string d] 35)).alloc (.cells (row (zeros 36)) 5)) (w.heap.size + 1 + 1) (zeros 36) := by
    have := row_new ((w.alloc (.cells #[.int .i64 v, .int .i64 f, .int .i64 s, .int .i64 g, .int .i64 ve, .string d] 35)).alloc (.cells #[.int .i64 v, .int .i64 f, .int .i64 s, .int .i64 g, .int .i64 ve, .string d] 35)) (zeros 36) 5
    simpa using this
  have hb1 : Below w.heap.size w (((w.alloc (.cells #[.int .i64 v, .int .i64 f, .int .i64 s, .int .i64 g, .int .i64 ve, .string d] 35)).alloc (.cells #[.int .i64 v, .int .i64 f, .int .i64 s, .int .i64 g, .int .i64 ve, .string d] 35)).alloc (.cells (row (zeros 36)) 5)) := (((Below.refl _ _).alloc (Nat.le_refl _) _).alloc (by simp) _).alloc (by simp; omega) _
  generalize (((w.alloc (.cells #[.int .i64 v, .int .i64 f, .int .i64 s, .int .i64 g, .int .i64 ve, .string d] 35)).alloc (.cells #[.int .i64 v, .int .i64 f, .int .i64 s, .int .i64 g, .int .i64 ve, .string d] 35)).alloc (.cells (row (zeros 36)) 5)) = w1 at hp1 hr1 hb1 ⊢
  clear hmk
  obtain ⟨c0, c1, c2, c3, c4, c5⟩ := hp1.cells
  have b0 := hr1.cell 0 (by decide)
  have b1 := hr1.cell 1 (by decide)
  have b2 := hr1.cell 2 (by decide)
  have b3 := hr1.cell 3 (by decide)
  have f0 := hr1.free 0 (by decide)
  have f1 := hr1.free 1 (by decide)
  have f2 := hr1.free 2 (by decide)
  have f3 := hr1.free 3 (by decide)
  go_region_held3 (fun w' => w'.cell? ⟨w.heap.size, 0, none⟩ = some (.int .i64 v) ∧ w'.cell? ⟨w.heap.size, 1, none⟩ = some (.int .i64 f) ∧ w'.cell? ⟨w.heap.size, 2, none⟩ = some (.int .i64 s)) ((refine ⟨?_, ?_, ?_⟩ <;> ((try simp only [World.cell?_drew]); (repeat rw [World.cell?_setCell_far _ _ _ _ (by dsimp only; omega)]); assumption))) (fail)
  obtain ⟨w2, hw2⟩ : ∃ w2, w2 = ((((w1.setCell ⟨w.heap.size + 1 + 1, 0, none⟩ (.int .u8 93)).setCell ⟨w.heap.size + 1 + 1, 1, none⟩ (.int .u8 v)).setCell ⟨w.heap.size + 1 + 1, 2, none⟩ (.int .u8 f)).setCell ⟨w.heap.size + 1 + 1, 3, none⟩ (.int .u8 s)).drew := ⟨_, rfl⟩
  rw [← hw2]
  have hr2 : RowAt w2 (w.heap.size + 1 + 1) (row1 v f s) := by
    have h1 := hr1.store 0 93 (by decide)
    have h2 := h1.store 1 (byteOf v) (by simp [zeros])
    have h3 := h2.store 2 (byteOf f) (by simp [zeros])
    have h4 := h3.store 3 (byteOf s) (by simp [zeros])
    rw [byteOf_small v v0 (by omega), byteOf_small f fl0 (by omega), byteOf_small s s0 (by omega)] at h4
    rw [hw2]
    exact h4.drew
  have hp2 : Piece w2 w.heap.size v f s g ve d 35 := by
    rw [hw2]
    exact (((hp1.other _ _ (by dsimp only; omega)).other _ _ (by dsimp only; omega)).other _ _ (by dsimp only; omega)).other _ _ (by dsimp only; omega)
  have hb2 : Below w.heap.size w w2 := by
    rw [hw2]
    exact ((((hb1.setCell (by dsimp only; omega) _).setCell (by dsimp only; omega) _).setCell (by dsimp only; omega) _).setCell (by dsimp only; omega) _).drew
  clear hw2 b0 b1 b2 b3 f0 f1 f2 f3 c0 c1 c2 c3 c4 c5 hr1 hp1 hb1 sv sf ss hv
  obtain ⟨c0, c1, c2, c3, c4, c5⟩ := hp2.cells
  go_wp2_with fail
  refine (put_any _ 36 4 5 g (row1 v f s) _ (by omega) (by omega) (by rw [row1_length]; omega) (row1_length _ _ _) hr2).mono ?_
  rintro e w3 ⟨rfl, hr3, hg3⟩
  rw [row2_eq] at hr3
  have hp3 := hp2.grown hg3 (by omega)
  have hb3 := below_grown hb2 hg3 (Nat.le_trans (Nat.le_refl _) hb2.size) (by omega)
  clear c0 c1 c2 c3 c4 c5 hr2 hp2 hb2 hg3
  obtain ⟨c0, c1, c2, c3, c4, c5⟩ := hp3.cells
  go_wp2_with fail
  refine (put_any _ 36 9 5 ve (row2 v f s g) _ (by omega) (by omega) (by rw [row2_length]; omega) (row2_length _ _ _ _) hr3).mono ?_
  rintro e w4 ⟨rfl, hr4, hg4⟩
  rw [row3_eq] at hr4
  have hp4 := hp3.grown hg4 (by omega)
  have hb4 := below_grown hb3 hg4 hb3.size (by omega)
  clear c0 c1 c2 c3 c4 c5 hr3 hp3 hb3 hg4
  obtain ⟨c0, c1, c2, c3, c4, c5⟩ := hp4.cells
  go_wp2_with fail
  refine wp_region_quiet_tail 4 (fun w' => ∃ n, w' = w4.drewN n) ⟨1, rfl⟩ (by kernel_rfl) (by kernel_rfl) ?_
  simp only [List.take_succ_cons, List.take_zero, List.drop_succ_cons, List.drop_zero]
  repeat (go_big_quiet_step (fail))
  refine wpQuiet_nil ?_
  rintro _ ⟨nq, rfl⟩
  refine wpList_copy_str rfl (.tmp 35) (.tmp 37) 59 9 rfl 5 Try.underlying59 u8_size (w.heap.size + 1 + 1) 16 20 20 d rfl rfl (by rw [HDS.out]; omega) (row3 v f s g ve) (hr4.drewN nq) (by rw [row3_length, HDS.out]; omega) ?_
  intro w5 hr5 hg5
  rw [row4_eq _ _ _ _ _ _ HDL.out] at hr5
  have hb5 := below_grown (below_drewN hb4 nq) hg5 hb4.size (by omega)
  have hlt5 := hr5.lt
  clear c0 c1 c2 c3 c4 c5 hr4 hp4 hb4 hg5
  have hcs := run_str (P := Try.prog) 59 5 9 Try.underlying59 Try.underlying5 Try.underlying9 hr5 0 32 36 (by rw [row4_length _ _ _ _ _ _ HDL.out]; omega)
  rw [List.drop_zero, row4_take _ _ _ _ _ _ HDL.out] at hcs
  have HHL := hid (headL_length v f s g ve _ HDL.out)
  have HR5 := hid (row5_eq v f s g ve _ HDL.out)
  generalize headL v f s g ve d.data.toList = hl at hcs HHL HR5
  have hsz : (⟨hl.toArray⟩ : ByteArray).size ≤ maxLen := by
    have : (⟨hl.toArray⟩ : ByteArray).size = 32 := HHL.out
    unfold maxLen; omega
  have HSZ := hid hsz; clear hsz
  have hcr := u32_range (crc hl)
  go_wp2_with fail
  refine (sum_prog _ _ HSZ.out).mono ?_
  rintro e w6 ⟨rfl, rfl⟩
  rw [show crc (⟨hl.toArray⟩ : ByteArray).data.toList = crc hl from rfl]
  go_wp2_with fail
  refine (put_any _ 36 32 4 _ (row4 v f s g ve d.data.toList) _ (by omega) (by omega) (by rw [row4_length _ _ _ _ _ _ HDL.out]; omega) (row4_length _ _ _ _ _ _ HDL.out) hr5).mono ?_
  rintro e w6 ⟨rfl, hr6, hg6⟩
  rw [HR5.out] at hr6
  have hb6 := below_grown hb5 hg6 hb5.size (by omega)
  clear hr5 hb5 hg6 hcs
  have hcs := run_str (P := Try.prog) 59 5 9 Try.underlying59 Try.underlying5 Try.underlying9 hr6 0 36 36 (by rw [encL_length _ _ _ _ _ _ HDL.out]; omega)
  rw [List.drop_zero, List.take_of_length_le (by rw [encL_length _ _ _ _ _ _ HDL.out]; omega)] at hcs
  go_wp2
  go_ret2
  exact ⟨rfl, hb6⟩
end Go.Proofs.Ytgeopgibjmhehaa
