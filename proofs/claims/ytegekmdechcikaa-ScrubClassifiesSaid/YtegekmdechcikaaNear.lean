/- Near: a piece whose numbers are within their ranges. -/
import Derived.Test.YtegekmdechcikaaBytes2
import Derived.Test.YtegekmdechcikaaQuiet
namespace Go.Proofs.Ytegekmdechcikaa
open Go.RowKit
attribute [local go_sem ↓] Go.wp_at_zero Go.wp_at_succ

theorem piece_size : (Try.prog.info? 23).map (·.size) = some 6 := by kernel_rfl
theorem piece_one (v f s g ve : Int) (d : ByteArray) : (#[Value.int .i64 v, .int .i64 f, .int .i64 s, .int .i64 g, .int .i64 ve, .string d]).all (·.oneCell') = true := by
  simp [Value.oneCell']
theorem below_drewN {B : Nat} {a w : World} (h : Below B a w) (n : Nat) : Below B a (w.drewN n) := ⟨h.os, h.tape, h.output, h.size, h.block⟩

set_option maxHeartbeats 1000000 in
theorem near_any (v f s g ve : Int) (d : ByteArray) (w : World) (hd : d.size ≤ maxLen) :
    Calls Try.prog 12 #[.agg #[.int .i64 v, .int .i64 f, .int .i64 s, .int .i64 g, .int .i64 ve, .string d]] w fun e w' =>
      e = .returned (.agg #[.int .i64 (v % 12), .int .i64 (f % 8), .int .i64 (s % 4), .int .i64 (1 + g % 1099511627775), .int .i64 (1 + ve % 1099511627775), str (near d.data.toList (min 16 d.size))]) ∧ Below w.heap.size w w' := by
  unfold maxLen at hd
  have hmk := Try.make16z
  go_enter Try.func12, Try.ntmps12
  go_wp2
  have hb0 : Below w.heap.size w (((w.alloc (.cells #[.int .i64 v, .int .i64 f, .int .i64 s, .int .i64 g, .int .i64 ve, .string d] 23)).alloc (.cells #[.int .i64 0, .int .i64 0, .int .i64 0, .int .i64 0, .int .i64 0, .string { data := #[] }] 23)).alloc (.cells (row (zeros 16)) 5)) :=
    (((Below.refl _ _).alloc (Nat.le_refl _) _).alloc (by simp) _).alloc (by simp; omega) _
  have hr0 : RowAt (((w.alloc (.cells #[.int .i64 v, .int .i64 f, .int .i64 s, .int .i64 g, .int .i64 ve, .string d] 23)).alloc (.cells #[.int .i64 0, .int .i64 0, .int .i64 0, .int .i64 0, .int .i64 0, .string { data := #[] }] 23)).alloc (.cells (row (zeros 16)) 5)) (w.heap.size + 1 + 1) (near d.data.toList 0) := by
    have := row_new ((w.alloc (.cells #[.int .i64 v, .int .i64 f, .int .i64 s, .int .i64 g, .int .i64 ve, .string d] 23)).alloc (.cells #[.int .i64 0, .int .i64 0, .int .i64 0, .int .i64 0, .int .i64 0, .string { data := #[] }] 23)) (zeros 16) 5
    simpa [near, zeros] using this
  have hp0 : Piece (((w.alloc (.cells #[.int .i64 v, .int .i64 f, .int .i64 s, .int .i64 g, .int .i64 ve, .string d] 23)).alloc (.cells #[.int .i64 0, .int .i64 0, .int .i64 0, .int .i64 0, .int .i64 0, .string { data := #[] }] 23)).alloc (.cells (row (zeros 16)) 5)) w.heap.size v f s g ve d 23 :=
    ((piece_new w v f s g ve d 23).alloc _).alloc _
  have hq0 : Piece (((w.alloc (.cells #[.int .i64 v, .int .i64 f, .int .i64 s, .int .i64 g, .int .i64 ve, .string d] 23)).alloc (.cells #[.int .i64 0, .int .i64 0, .int .i64 0, .int .i64 0, .int .i64 0, .string { data := #[] }] 23)).alloc (.cells (row (zeros 16)) 5)) (w.heap.size + 1) 0 0 0 0 0 { data := #[] } 23 := by
    have := (piece_new (w.alloc (.cells #[.int .i64 v, .int .i64 f, .int .i64 s, .int .i64 g, .int .i64 ve, .string d] 23)) 0 0 0 0 0 { data := #[] } 23).alloc (.cells (row (zeros 16)) 5)
    simpa using this
  clear hmk
  go_loopw [4] (fun i wr => ∃ (k : Nat), k ≤ 16 ∧ k ≤ d.size ∧ i = .int .i64 (k : Int) ∧ RowAt wr (w.heap.size + 1 + 1) (near d.data.toList k) ∧ Piece wr w.heap.size v f s g ve d 23 ∧ Piece wr (w.heap.size + 1) 0 0 0 0 0 { data := #[] } 23 ∧ Below w.heap.size w wr) (fun i _ => (16 - intOf i).toNat)
  case atStart => exact ⟨0, Nat.zero_le _, Nat.zero_le _, rfl, hr0, hp0, hq0, hb0⟩
  case round =>
    clear hr0 hp0 hq0 hb0
    obtain ⟨k, hk, hkd, rfl, hrow, hp, hq, hb⟩ := hrel
    obtain ⟨c0, c1, c2, c3, c4, c5⟩ := hp.cells
    have hlen : 16 ≤ (near d.data.toList k).length := by rw [near_length _ k hk (by simpa using hkd)]; omega
    by_cases hgo : k < 16 ∧ k < d.size
    · obtain ⟨h16, hkl⟩ := hgo
      have hc := hrow.cell k (by omega)
      have hf := hrow.free k (by omega)
      have hst := hrow.store k d[k] (by omega)
      have e : (near d.data.toList k).set k d[k] = near d.data.toList (k + 1) := near_set d.data.toList k h16 (by simpa using hkl)
      rw [e] at hst
      have HST := hid hst; clear hst e
      go_wp2
      go_roundw
      case rel => exact ⟨k + 1, by omega, by omega, by go_num, HST.out, hp.other _ _ (by simp; omega), hq.other _ _ (by simp), hb.setCell (by simp; omega) _⟩
      case measure => (simp [intOf]; try omega)
    · have hm : min 16 d.size = k := by omega
      have HM := hid hm; clear hm
      have hcs := fun W (h : RowAt W (w.heap.size + 1 + 1) (near d.data.toList k)) => run_str (P := Try.prog) 90 5 9 Try.underlying90 Try.underlying5 Try.underlying9 h 0 16 16 (by omega)
      rw [List.drop_zero, List.take_of_length_le (by rw [near_length _ _ hk (by simpa using hkd)]; omega)] at hcs
      have hcv := fun n => hcs _ (hrow.drewN n)
      clear hcs
      have g0 := Int.emod_nonneg g (show (1099511627775 : Int) ≠ 0 by decide)
      have g1 := Int.emod_lt_of_pos g (show (0 : Int) < 1099511627775 by decide)
      have e0 := Int.emod_nonneg ve (show (1099511627775 : Int) ≠ 0 by decide)
      have e1 := Int.emod_lt_of_pos ve (show (0 : Int) < 1099511627775 by decide)
      have sg : IntKind.i64.wrap (1 + g % 1099511627775) = 1 + g % 1099511627775 := IntWalk.i64_in _ (by omega)
      have se : IntKind.i64.wrap (1 + ve % 1099511627775) = 1 + ve % 1099511627775 := IntWalk.i64_in _ (by omega)
      by_cases h16 : k < 16
      all_goals
        first
          | have hge : d.size ≤ k := by omega
          | have hge : 16 ≤ k := by omega
        clear hgo
        go_wp2
        refine wp_region_quiet_tail 20 (fun w' => ∃ n, w' = wr.drewN n) ⟨1, rfl⟩ (by kernel_rfl) (by kernel_rfl) ?_
        simp only [List.take_succ_cons, List.take_zero, List.drop_succ_cons, List.drop_zero]
        repeat (go_big_quiet_step ((go_at_call 13; exact quiet_left (within_any _ _ _ (by omega) (by omega)))))
        refine wpQuiet_nil ?_
        rintro _ ⟨nq, rfl⟩
        refine wpList_store_row rfl 23 (.tmp 2) (.tmp 45) rfl (w.heap.size + 1) #[.int .i64 (v % 12), .int .i64 (f % 8), .int .i64 (s % 4), .int .i64 (1 + g % 1099511627775), .int .i64 (1 + ve % 1099511627775), str (near d.data.toList k)] rfl rfl 23 _ hq piece_size rfl (piece_one _ _ _ _ _ _) ?_
        have hbb : Below w.heap.size w ((wr.drewN nq).setRow (w.heap.size + 1) #[.int .i64 (v % 12), .int .i64 (f % 8), .int .i64 (s % 4), .int .i64 (1 + g % 1099511627775), .int .i64 (1 + ve % 1099511627775), str (near d.data.toList k)]) := below_setRow (below_drewN hb nq) (by omega) _
        have hgg : ((wr.drewN nq).setRow (w.heap.size + 1) #[.int .i64 (v % 12), .int .i64 (f % 8), .int .i64 (s % 4), .int .i64 (1 + g % 1099511627775), .int .i64 (1 + ve % 1099511627775), str (near d.data.toList k)]).heap[w.heap.size + 1]? = some (.cells #[.int .i64 (v % 12), .int .i64 (f % 8), .int .i64 (s % 4), .int .i64 (1 + g % 1099511627775), .int .i64 (1 + ve % 1099511627775), str (near d.data.toList k)] 23 (0, 0)) := setRow_heap (wr.drewN nq) _ _ _ _ _ hq
        generalize (wr.drewN nq).setRow (w.heap.size + 1) #[.int .i64 (v % 12), .int .i64 (f % 8), .int .i64 (s % 4), .int .i64 (1 + g % 1099511627775), .int .i64 (1 + ve % 1099511627775), str (near d.data.toList k)] = w2 at hbb hgg ⊢
        go_wp2
        refine bodyPost_ret (results_cell_row Try.results12 _ _ (w.heap.size + 1) _ _ _ _ rfl hgg Try.underlying23 rfl piece_size) rfl ⟨by rw [HM.out], hbb⟩
end Go.Proofs.Ytegekmdechcikaa
