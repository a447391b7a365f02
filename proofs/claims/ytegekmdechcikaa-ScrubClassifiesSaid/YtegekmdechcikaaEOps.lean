/- The drive's methods that only read; Fence, Status. -/
import Derived.Test.YtegekmdechcikaaEDrv
namespace Go.Proofs.Ytegekmdechcikaa
open Go Go.RowKit Go.Sort

theorem len_zero (n : Nat) : ((n : Int) == 0) = (n == 0) := by rw [Bool.eq_iff_iff]; simp
theorem below_drew (w : World) (n : Nat) : Below w.heap.size w (w.drewN n) := ⟨rfl, rfl, rfl, Nat.le_refl _, fun _ _ => rfl⟩
theorem status_size : (Try.prog.info? 70).map (·.size) = some 3 := by kernel_rfl
theorem status_one (x y : Bool) (t : Int) : (#[Value.bool x, .bool y, .int .i64 t]).all (·.oneCell') = true := by kernel_rfl
theorem len_eq_zero {S : Dv} (hS : S.Ok) : ((S.secs.length : Int) == 0) = false := by
  have := hS.one
  rw [beq_eq_false_iff_ne]; omega

section
variable {w : World} {o p : Own} {a b c : Nat} {pv : Value} {S : Dv}
theorem gone_any (h : DrvB w o p a b c pv S) (hS : S.Ok) :
    Calls Try.prog 47 #[.pointer (some ⟨a, 0, none⟩)] w fun e w' => e = .returned (.bool S.dead) ∧ w = w' := by
  obtain ⟨c0, c1, c2, c3, c4, c5⟩ := h.cells
  have hl := hS.one
  cases hd : S.dead
  · rw [hd] at c3
    go_enter Try.func47, Try.ntmps47
    go_wp2
    go_ret
    exact ⟨by show Ending.returned (Value.bool ((S.secs.length : Int) == 0)) = _; rw [len_eq_zero hS], rfl⟩
  · rw [hd] at c3
    go_enter Try.func47, Try.ntmps47
    go_wp2
    go_ret
    exact ⟨by simp, rfl⟩
theorem online_any (h : DrvB w o p a b c pv S) (hS : S.Ok) :
    Calls Try.prog 42 #[.pointer (some ⟨a, 0, none⟩)] w fun e w' => e = .returned (.bool S.online) ∧ w = w' := by
  obtain ⟨c0, c1, c2, c3, c4, c5⟩ := h.cells
  have HS := hid hS
  clear hS
  unfold Dv.online
  cases hg : S.dead
  · go_enter Try.func42, Try.ntmps42
    go_wp2_with (go_at_call 47; refine (gone_any h HS.out).mono ?_; rintro e w' ⟨rfl, rfl⟩; rw [hg])
    go_ret
    exact ⟨by simp, rfl⟩
  · go_enter Try.func42, Try.ntmps42
    go_wp2_with (go_at_call 47; refine (gone_any h HS.out).mono ?_; rintro e w' ⟨rfl, rfl⟩; rw [hg])
    go_ret
    exact ⟨by simp, rfl⟩
theorem claim_any (h : DrvB w o p a b c pv S) :
    Calls Try.prog 25 #[.pointer (some ⟨a, 0, none⟩)] w fun e w' => e = .returned (.int .i64 S.claim) ∧ w = w' := by
  obtain ⟨c0, c1, c2, c3, c4, c5⟩ := h.cells
  go_enter Try.func25, Try.ntmps25
  go_wp2
  go_ret
  exact ⟨rfl, rfl⟩
theorem slot_any (h : DrvB w o p a b c pv S) (s : Int) :
    Calls Try.prog 43 #[.pointer (some ⟨a, 0, none⟩), .int .i64 s] w fun e w' => e = .returned (.bool (S.slot s)) ∧ w = w' := by
  unfold Dv.slot
  by_cases h0 : 0 ≤ s
  · go_enter Try.func43, Try.ntmps43
    go_wp2_with (go_at_call 25; refine (claim_any h).mono ?_; rintro e w' ⟨rfl, rfl⟩)
    go_ret
    exact ⟨by simp [h0], rfl⟩
  · go_enter Try.func43, Try.ntmps43
    go_wp2_with (go_at_call 25; refine (claim_any h).mono ?_; rintro e w' ⟨rfl, rfl⟩)
    go_ret
    exact ⟨by rw [decide_eq_false (by omega)]; rfl, rfl⟩
theorem cell_any (h : DrvB w o p a b c pv S) (hS : S.Ok) (s : Int) (hs : 0 ≤ s) :
    Calls Try.prog 44 #[.pointer (some ⟨a, 0, none⟩), .int .i64 s] w fun e w' => e = .returned (.pointer (some ⟨b, S.at_ s * 3, none⟩)) ∧ ∃ n, w' = w.drewN n := by
  obtain ⟨c0, c1, c2, c3, c4, c5⟩ := h.cells
  have hl := hS.one
  have hm : S.secs.length ≤ 128 := by have := hS.le; have := hS.top; omega
  have ht : s.tmod (S.secs.length : Int) = ((S.at_ s : Nat) : Int) := by
    unfold Dv.at_
    rw [Int.tmod_eq_emod_of_nonneg hs, Int.toNat_of_nonneg (Int.emod_nonneg _ (by omega))]
  have hlt : S.at_ s < S.secs.length := S.at_lt hS s
  generalize S.at_ s = k at *
  clear hS
  go_enter Try.func44, Try.ntmps44
  go_wp2_with fail
  go_big_quiet (fail)
  go_wp2
  go_ret
  exact ⟨rfl, nq, rfl⟩
theorem slot_some {S : Dv} {s : Int} (h : S.slot s = true) : 0 ≤ s := by
  unfold Dv.slot at h
  simp at h
  exact h.1
set_option maxHeartbeats 1000000 in
theorem read_any (h : DrvB w o p a b c pv S) (hS : S.Ok) (s : Int) :
    Calls Try.prog 49 #[.pointer (some ⟨a, 0, none⟩), .int .i64 s] w fun e w' => e = .returned (.tuple #[.string (S.read s).1, .int .i64 (S.read s).2]) ∧ ∃ n, w' = w.drewN n := by
  have HH := hid h
  have HS := hid hS
  clear h hS
  unfold Dv.read
  cases ho : S.online
  · go_enter Try.func49, Try.ntmps49
    go_wp2_with (go_at_call 42; refine (online_any HH.out HS.out).mono ?_; rintro e w' ⟨rfl, rfl⟩; rw [ho])
    go_ret2
    exact ⟨rfl, 0, rfl⟩
  · cases hsl : S.slot s
    · go_enter Try.func49, Try.ntmps49
      go_wp2_with (first | (go_at_call 42; refine (online_any HH.out HS.out).mono ?_; rintro e w' ⟨rfl, rfl⟩; rw [ho]) | (go_at_call 43; refine (slot_any HH.out s).mono ?_; rintro e w' ⟨rfl, rfl⟩; rw [hsl]))
      go_ret2
      exact ⟨rfl, 0, rfl⟩
    · have hs0 := slot_some hsl
      have hget := S.get_eq HS.out s
      obtain ⟨sd, su, sm, hsec⟩ : ∃ sd su sm, S.get s = ⟨sd, su, sm⟩ := ⟨_, _, _, rfl⟩
      have hcs : ∀ n, (w.drewN n).cell? ⟨b, S.at_ s * 3, none⟩ = some (.string sd) ∧ (w.drewN n).cell? ⟨b, S.at_ s * 3 + 1, none⟩ = some (.bool su) := by
        intro n
        obtain ⟨c0, c1, _⟩ := (HH.out.drewN n).secs.cells (S.at_ s) (S.at_lt HS.out s)
        rw [← hget, hsec] at c0 c1
        exact ⟨c0, c1⟩
      rw [hsec]
      have HCS := hid hcs
      clear hget hsec hcs
      cases su
      · go_enter Try.func49, Try.ntmps49
        go_wp2_with (first | (go_at_call 42; refine (online_any HH.out HS.out).mono ?_; rintro e w' ⟨rfl, rfl⟩; rw [ho]) | (go_at_call 43; refine (slot_any HH.out s).mono ?_; rintro e w' ⟨rfl, rfl⟩; rw [hsl]))
        refine (cell_any HH.out HS.out s hs0).mono ?_
        rintro e w' ⟨rfl, n1, rfl⟩
        obtain ⟨c0, c1⟩ := HCS.out n1
        go_wp2_with fail
        refine (cell_any (HH.out.drewN n1) HS.out s hs0).mono ?_
        rintro e w' ⟨rfl, n2, rfl⟩
        obtain ⟨d0, d1⟩ := HCS.out (n1 + n2)
        go_wp2
        go_ret2
        exact ⟨rfl, n1 + n2, rfl⟩
      · go_enter Try.func49, Try.ntmps49
        go_wp2_with (first | (go_at_call 42; refine (online_any HH.out HS.out).mono ?_; rintro e w' ⟨rfl, rfl⟩; rw [ho]) | (go_at_call 43; refine (slot_any HH.out s).mono ?_; rintro e w' ⟨rfl, rfl⟩; rw [hsl]))
        refine (cell_any HH.out HS.out s hs0).mono ?_
        rintro e w' ⟨rfl, n1, rfl⟩
        obtain ⟨c0, c1⟩ := HCS.out n1
        go_wp2
        go_ret2
        exact ⟨rfl, n1, rfl⟩
set_option maxHeartbeats 1000000 in
theorem fence_any (h : DrvB w o p a b c pv S) (hS : S.Ok) (t : Int) :
    Calls Try.prog 61 #[.pointer (some ⟨a, 0, none⟩), .int .i64 t] w fun e w' => e = .returned (.int .i64 (S.fence t).1) ∧ DrvB w' o p a b c pv (S.fence t).2 ∧ Fr o w w' := by
  unfold Dv.fence
  obtain ⟨c0, c1, c2, c3, c4, c5⟩ := h.cells
  have f4 := h.free 4 (by omega)
  have HH := hid h
  have HS := hid hS
  clear h hS
  cases ho : S.online
  · go_enter Try.func61, Try.ntmps61
    go_wp2_with (go_at_call 42; refine (online_any HH.out HS.out).mono ?_; rintro e w' ⟨rfl, rfl⟩; rw [ho])
    go_ret
    exact ⟨rfl, HH.out, Fr.refl _ _⟩
  · by_cases ht : t < S.term
    · go_enter Try.func61, Try.ntmps61
      go_wp2_with (go_at_call 42; refine (online_any HH.out HS.out).mono ?_; rintro e w' ⟨rfl, rfl⟩; rw [ho])
      go_ret
      exact ⟨by simp, by simpa [ht] using HH.out, Fr.refl _ _⟩
    · go_enter Try.func61, Try.ntmps61
      go_wp2_with (go_at_call 42; refine (online_any HH.out HS.out).mono ?_; rintro e w' ⟨rfl, rfl⟩; rw [ho])
      go_ret
      exact ⟨by simp, by simpa [ht] using HH.out.term t, (Fr.refl o w).setCell _ _ (.inl HH.out.oa)⟩
set_option maxHeartbeats 1000000 in
theorem status_any (h : DrvB w o p a b c pv S) (hS : S.Ok) :
    Calls Try.prog 29 #[.pointer (some ⟨a, 0, none⟩)] w fun e w' => e = .returned (.agg #[.bool S.online, .bool S.dead, .int .i64 S.term]) ∧ Below w.heap.size w w' := by
  obtain ⟨c0, c1, c2, c3, c4, c5⟩ := h.cells
  have HH := hid h
  have HS := hid hS
  clear h hS
  go_enter Try.func29, Try.ntmps29
  go_wp2_with fail
  have hb1 : Below w.heap.size w (w.alloc (.cells #[.bool false, .bool false, .int .i64 0] 70)) := (Below.refl _ _).alloc (Nat.le_refl _) _
  have h1 := HH.out.below hb1
  have hg1 : (w.alloc (.cells #[.bool false, .bool false, .int .i64 0] 70)).heap[w.heap.size]? = some (.cells #[.bool false, .bool false, .int .i64 0] 70 (0, 0)) := heap_alloc_new w _
  obtain ⟨d0, d1, d2, d3, d4, d5⟩ := h1.cells
  have H1 := hid h1
  clear h1 c0 c1 c2 c3 c4 c5 HH
  generalize w.alloc (.cells #[.bool false, .bool false, .int .i64 0] 70) = w1 at *
  refine wp_region_quiet_tail 9 (fun w' => ∃ n, w' = w1.drewN n) ⟨1, rfl⟩ (by kernel_rfl) (by kernel_rfl) ?_
  simp only [List.take_succ_cons, List.take_zero, List.drop_succ_cons, List.drop_zero]
  repeat (go_big_quiet_step ((first | (go_at_call 42; exact quiet_left (online_any (H1.out.drewN _) HS.out)) | (go_at_call 47; exact quiet_left (gone_any (H1.out.drewN _) HS.out)))))
  refine wpQuiet_nil ?_
  rintro _ ⟨nq, rfl⟩
  refine wpList_store_row rfl 70 (.tmp 2) (.tmp 14) rfl w.heap.size #[.bool S.online, .bool S.dead, .int .i64 S.term] rfl rfl 70 _ hg1 status_size rfl (status_one _ _ _) ?_
  have hbb : Below w.heap.size w ((w1.drewN nq).setRow w.heap.size #[.bool S.online, .bool S.dead, .int .i64 S.term]) := below_setRow (hb1.trans ((below_drew w1 nq).mono hb1.size)) (Nat.le_refl _) _
  have hgg : ((w1.drewN nq).setRow w.heap.size #[.bool S.online, .bool S.dead, .int .i64 S.term]).heap[w.heap.size]? = some (.cells #[.bool S.online, .bool S.dead, .int .i64 S.term] 70 (0, 0)) := setRow_heap (w1.drewN nq) _ _ _ _ _ hg1
  generalize (w1.drewN nq).setRow w.heap.size #[.bool S.online, .bool S.dead, .int .i64 S.term] = w2 at hbb hgg ⊢
  go_wp2
  refine bodyPost_ret (results_cell_row Try.results29 _ _ w.heap.size _ _ _ _ rfl hgg Try.underlying70 rfl status_size) rfl ⟨rfl, hbb⟩
end
end Go.Proofs.Ytegekmdechcikaa
