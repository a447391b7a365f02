/- The drive of the reference: how it lies in memory, its small methods. -/
import Derived.Test.YtegekmdechcikaaEText
namespace Go.Proofs.Ytegekmdechcikaa
open Go Go.RowKit Go.Sort

/-- The raw state R of the reference stands for the drive S: cell 2 says 'online'; the sectors of a dead drive may be any. -/
structure Rel (R S : Dv) : Prop where
  claim : R.claim = S.claim
  on : R.off = S.online
  dead : R.dead = S.dead
  term : R.term = S.term
  pend : R.pend = S.pend
  len : R.secs.length = S.secs.length
  secs : S.dead = false → R.secs = S.secs
def Ref (w : World) (o : Own) (a : Nat) (S : Dv) : Prop := ∃ R, Drv w o a R ∧ Rel R S
theorem Ref.fr {w w' : World} {o o2 : Own} {a : Nat} {S : Dv} (h : Ref w o a S) (hf : Fr o2 w w') (hd : Apart o o2) : Ref w' o a S := by
  obtain ⟨R, h, r⟩ := h
  exact ⟨R, h.fr hf hd, r⟩
theorem Ref.below {w w' : World} {o : Own} {a : Nat} {S : Dv} (h : Ref w o a S) (hb : Below w.heap.size w w') : Ref w' o a S := by
  obtain ⟨R, h, r⟩ := h
  exact ⟨R, h.below hb, r⟩
theorem Ref.under {w : World} {o : Own} {a : Nat} {S : Dv} (h : Ref w o a S) : Under w o := by
  obtain ⟨R, h, _⟩ := h
  exact h.under
theorem online_live {S : Dv} (h : S.online = true) : S.dead = false := by
  unfold Dv.online at h
  cases hd : S.dead
  · rfl
  · rw [hd] at h; cases h
theorem Rel.at_ {R S : Dv} (h : Rel R S) (s : Int) : R.at_ s = S.at_ s := by unfold Dv.at_; rw [h.len]
theorem Rel.slot {R S : Dv} (h : Rel R S) (s : Int) : R.slot s = S.slot s := by unfold Dv.slot; rw [h.claim]
theorem Rel.get {R S : Dv} (h : Rel R S) (hd : S.dead = false) (s : Int) : R.get s = S.get s := by unfold Dv.get; rw [h.at_, h.secs hd]
theorem Rel.one {R S : Dv} (h : Rel R S) (hS : S.Ok) : 1 ≤ R.secs.length ∧ R.secs.length ≤ 128 := by
  have := hS.one
  have := hS.le
  have := hS.top
  rw [h.len]; omega
theorem Rel.lt {R S : Dv} (h : Rel R S) (hS : S.Ok) (s : Int) : S.at_ s < R.secs.length := by rw [h.len]; exact S.at_lt hS s

section
variable {w : World} {o p : Own} {a b c : Nat} {pv : Value} {R S : Dv}
theorem at_any (h : DrvB w o p a b c pv R) (hr : Rel R S) (hS : S.Ok) (s : Int) (hs : 0 ≤ s) :
    Calls Try.prog 71 #[.pointer (some ⟨a, 0, none⟩), .int .i64 s] w fun e w' => e = .returned (.int .i64 (S.at_ s : Nat)) ∧ w = w' := by
  obtain ⟨c0, c1, c2, c3, c4, c5⟩ := h.cells
  obtain ⟨hl, hm⟩ := hr.one hS
  have ht : s.tmod (R.secs.length : Int) = ((S.at_ s : Nat) : Int) := by
    rw [← hr.at_]
    unfold Dv.at_
    rw [Int.tmod_eq_emod_of_nonneg hs, Int.toNat_of_nonneg (Int.emod_nonneg _ (by omega))]
  have ht2 : s % (R.secs.length : Int) = ((S.at_ s : Nat) : Int) := by rw [← ht, Int.tmod_eq_emod_of_nonneg hs]
  have HT := hid ht
  have HT2 := hid ht2
  clear ht ht2 hS hr
  go_enter Try.func71, Try.ntmps71
  go_wp2
  go_ret
  exact ⟨by first | rw [← HT.out]; rfl | rw [← HT2.out]; rfl, rfl⟩
set_option maxHeartbeats 1000000 in
theorem ref_status (h : DrvB w o p a b c pv R) (hr : Rel R S) :
    Calls Try.prog 58 #[.pointer (some ⟨a, 0, none⟩)] w fun e w' => e = .returned (.agg #[.bool S.online, .bool S.dead, .int .i64 S.term]) ∧ Below w.heap.size w w' := by
  obtain ⟨c0, c1, c2, c3, c4, c5⟩ := h.cells
  rw [hr.on] at c2
  rw [hr.dead] at c3
  rw [hr.term] at c4
  have hlt := h.vals.lt
  clear h hr
  go_enter Try.func58, Try.ntmps58
  go_wp2_with fail
  have hb1 : Below w.heap.size w (w.alloc (.cells #[.bool false, .bool false, .int .i64 0] 70)) := (Below.refl _ _).alloc (Nat.le_refl _) _
  have hg1 : (w.alloc (.cells #[.bool false, .bool false, .int .i64 0] 70)).heap[w.heap.size]? = some (.cells #[.bool false, .bool false, .int .i64 0] 70 (0, 0)) := heap_alloc_new w _
  have d2 := (hb1.cell (p := ⟨a, 2, none⟩) hlt).trans c2
  have d3 := (hb1.cell (p := ⟨a, 3, none⟩) hlt).trans c3
  have d4 := (hb1.cell (p := ⟨a, 4, none⟩) hlt).trans c4
  clear c0 c1 c2 c3 c4 c5
  generalize w.alloc (.cells #[.bool false, .bool false, .int .i64 0] 70) = w1 at *
  refine wp_region_quiet_tail 13 (fun w' => ∃ n, w' = w1.drewN n) ⟨1, rfl⟩ (by kernel_rfl) (by kernel_rfl) ?_
  simp only [List.take_succ_cons, List.take_zero, List.drop_succ_cons, List.drop_zero]
  repeat (go_big_quiet_step (fail))
  refine wpQuiet_nil ?_
  rintro _ ⟨nq, rfl⟩
  refine wpList_store_row rfl 70 (.tmp 2) (.tmp 15) rfl w.heap.size #[.bool S.online, .bool S.dead, .int .i64 S.term] rfl rfl 70 _ hg1 status_size rfl (status_one _ _ _) ?_
  have hbb : Below w.heap.size w ((w1.drewN nq).setRow w.heap.size #[.bool S.online, .bool S.dead, .int .i64 S.term]) := below_setRow (hb1.trans ((below_drew w1 nq).mono hb1.size)) (Nat.le_refl _) _
  have hgg : ((w1.drewN nq).setRow w.heap.size #[.bool S.online, .bool S.dead, .int .i64 S.term]).heap[w.heap.size]? = some (.cells #[.bool S.online, .bool S.dead, .int .i64 S.term] 70 (0, 0)) := setRow_heap (w1.drewN nq) _ _ _ _ _ hg1
  generalize (w1.drewN nq).setRow w.heap.size #[.bool S.online, .bool S.dead, .int .i64 S.term] = w2 at hbb hgg ⊢
  go_wp2
  refine bodyPost_ret (results_cell_row Try.results58 _ _ w.heap.size _ _ _ _ rfl hgg Try.underlying70 rfl status_size) rfl ⟨rfl, hbb⟩
set_option maxHeartbeats 1000000 in
theorem ref_fence (h : DrvB w o p a b c pv R) (hr : Rel R S) (t : Int) :
    Calls Try.prog 62 #[.pointer (some ⟨a, 0, none⟩), .int .i64 t] w fun e w' => e = .returned (.int .i64 (S.fence t).1) ∧ Ref w' o a (S.fence t).2 ∧ Fr o w w' := by
  unfold Dv.fence
  obtain ⟨c0, c1, c2, c3, c4, c5⟩ := h.cells
  rw [hr.on] at c2
  rw [hr.term] at c4
  have f4 := h.free 4 (by omega)
  have HH := hid h
  have HR := hid hr
  clear h hr
  cases ho : S.online
  · rw [ho] at c2
    go_enter Try.func62, Try.ntmps62
    go_wp2
    go_ret
    exact ⟨rfl, ⟨R, ⟨_, _, _, _, HH.out⟩, HR.out⟩, Fr.refl _ _⟩
  · rw [ho] at c2
    have HO := hid ho
    clear ho
    by_cases ht : t < S.term
    · go_enter Try.func62, Try.ntmps62
      go_wp2
      go_ret
      exact ⟨by simp, by simpa [ht] using ⟨R, ⟨_, _, _, _, HH.out⟩, HR.out⟩, Fr.refl _ _⟩
    · go_enter Try.func62, Try.ntmps62
      go_wp2
      go_ret
      refine ⟨by simp, ?_, (Fr.refl o w).setCell _ _ (.inl HH.out.oa)⟩
      exact ⟨_, ⟨_, _, _, _, HH.out.term t⟩, ⟨HR.out.claim, HR.out.on, HR.out.dead, rfl, HR.out.pend, HR.out.len, HR.out.secs⟩⟩
end
end Go.Proofs.Ytegekmdechcikaa
