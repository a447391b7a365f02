/- Read, Write without pending faults, Fence, Status. -/
import Derived.Test.YtiodfnjblimmbaaDOps
namespace Go.Proofs.Ytiodfnjblimmbaa
open Go Go.RowKit Go.Sort

theorem below_drew (w : World) (n : Nat) : Below w.heap.size w (w.drewN n) := ⟨rfl, rfl, rfl, Nat.le_refl _, fun _ _ => rfl⟩
theorem DrvAt.drewN {w : World} {a b : Nat} {S : DS} {pv : Value} (h : DrvAt w a b S pv) (n : Nat) : DrvAt (w.drewN n) a b S pv := h.below (below_drew w n) h.vals.lt h.secs.lt

theorem status_size : (Try.prog.info? 45).map (·.size) = some 3 := by kernel_rfl
theorem status_one (x y : Bool) (t : Int) : (#[Value.bool x, .bool y, .int .i64 t]).all (·.oneCell') = true := by kernel_rfl
theorem DrvAt.alloc {w : World} {a b : Nat} {S : DS} {pv : Value} (h : DrvAt w a b S pv) (o : Obj) : DrvAt (w.alloc o) a b S pv := ⟨h.vals.alloc o, h.secs.alloc o, h.ne⟩

def DS.read (S : DS) (s : Int) : ByteArray × Int :=
  if S.online = false then (⟨#[]⟩, 105) else if S.slot s = false then (⟨#[]⟩, 5) else if (S.get s).un = true then (⟨#[]⟩, 107) else ((S.get s).data, 0)
theorem online_some {S : DS} (h : S.online = true) : 0 < S.secs.length := by
  unfold DS.online DS.gone at h
  simp only [Bool.and_eq_true, Bool.not_eq_true', Bool.or_eq_false_iff, beq_eq_false_iff_ne, ne_eq] at h
  omega
theorem slot_some {S : DS} {s : Int} (h : S.slot s = true) : 0 ≤ s := by
  unfold DS.slot at h
  simp at h
  exact h.1
theorem at_lt {S : DS} (s : Int) (h : 0 < S.secs.length) : S.at s < S.secs.length := by
  unfold DS.at
  have := Int.emod_lt_of_pos s (show (0 : Int) < S.secs.length by omega)
  have := Int.emod_nonneg s (show (S.secs.length : Int) ≠ 0 by omega)
  omega

section
variable {w : World} {a b : Nat} {S : DS} {pv : Value}
set_option maxHeartbeats 1000000 in
theorem read_any (h : DrvAt w a b S pv) (s : Int) (hm : S.secs.length ≤ 1000000) :
    Calls Try.prog 19 #[.pointer (some ⟨a, 0, none⟩), .int .i64 s] w fun e w' => e = .returned (.tuple #[.string (S.read s).1, .int .i64 (S.read s).2]) ∧ ∃ n, w' = w.drewN n := by
  unfold DS.read
  cases ho : S.online
  · go_enter Try.func19, Try.ntmps19
    go_wp2_with (go_at_call 38; refine (online_any h).mono ?_; rintro e w' ⟨rfl, rfl⟩; rw [ho])
    go_ret2
    exact ⟨rfl, 0, rfl⟩
  · have hl := online_some ho
    cases hsl : S.slot s
    · go_enter Try.func19, Try.ntmps19
      go_wp2_with (first | (go_at_call 38; refine (online_any h).mono ?_; rintro e w' ⟨rfl, rfl⟩; rw [ho]) | (go_at_call 39; refine (slot_any h s).mono ?_; rintro e w' ⟨rfl, rfl⟩; rw [hsl]))
      go_ret2
      exact ⟨rfl, 0, rfl⟩
    · have hs0 := slot_some hsl
      have hk := at_lt s hl
      have hget : S.get s = S.secs[S.at s] := by unfold DS.get; rw [List.getD_eq_getElem?_getD, List.getElem?_eq_getElem hk]; rfl
      obtain ⟨sd, su, sm, hsec⟩ : ∃ sd su sm, S.get s = ⟨sd, su, sm⟩ := ⟨_, _, _, rfl⟩
      have hcs : ∀ n, (w.drewN n).cell? ⟨b, S.at s * 3, none⟩ = some (.string sd) ∧ (w.drewN n).cell? ⟨b, S.at s * 3 + 1, none⟩ = some (.bool su) := by
        intro n
        obtain ⟨c0, c1, _⟩ := (h.drewN n).secs.cells (S.at s) hk
        rw [← hget, hsec] at c0 c1
        exact ⟨c0, c1⟩
      rw [hsec]
      have HCS := hid hcs
      have HH := hid h
      clear hget hsec hcs
      cases su
      · go_enter Try.func19, Try.ntmps19
        go_wp2_with (first | (go_at_call 38; refine (online_any h).mono ?_; rintro e w' ⟨rfl, rfl⟩; rw [ho]) | (go_at_call 39; refine (slot_any h s).mono ?_; rintro e w' ⟨rfl, rfl⟩; rw [hsl]))
        refine (cell_any h s hs0 hl hm).mono ?_
        rintro e w' ⟨rfl, n1, rfl⟩
        obtain ⟨c0, c1⟩ := HCS.out n1
        go_wp2_with fail
        refine (cell_any (h.drewN n1) s hs0 hl hm).mono ?_
        rintro e w' ⟨rfl, n2, rfl⟩
        obtain ⟨d0, d1⟩ := HCS.out (n1 + n2)
        go_wp2
        go_ret2
        exact ⟨rfl, n1 + n2, rfl⟩
      · go_enter Try.func19, Try.ntmps19
        go_wp2_with (first | (go_at_call 38; refine (online_any h).mono ?_; rintro e w' ⟨rfl, rfl⟩; rw [ho]) | (go_at_call 39; refine (slot_any h s).mono ?_; rintro e w' ⟨rfl, rfl⟩; rw [hsl]))
        refine (cell_any h s hs0 hl hm).mono ?_
        rintro e w' ⟨rfl, n1, rfl⟩
        obtain ⟨c0, c1⟩ := HCS.out n1
        go_wp2
        go_ret2
        exact ⟨rfl, n1, rfl⟩

/-- A write where no fault waits. -/
def DS.write (S : DS) (t s : Int) (d : ByteArray) : Int × DS :=
  if S.online = false then (105, S) else if t < S.term then (106, S) else if S.slot s = false then (5, S) else if d.size ≠ 36 then (101, S)
  else (0, { S with term := t, secs := S.secs.set (S.at s) ⟨d, false, false⟩ })

set_option maxHeartbeats 1000000 in
theorem write_any (cap : Nat) (q : Option Addr) (h : DrvAt w a b S (.slice q 0 cap)) (t s : Int) (d : ByteArray) (hm : S.secs.length ≤ 1000000) :
    Calls Try.prog 18 #[.pointer (some ⟨a, 0, none⟩), .int .i64 t, .int .i64 s, .string d] w fun e w' => e = .returned (.int .i64 (S.write t s d).1) ∧ DrvAt w' a b (S.write t s d).2 (.slice q 0 cap) ∧ Keep a b w w' := by
  unfold DS.write
  obtain ⟨c0, c1, c2, c3, c4, c5⟩ := h.cells
  have f4 := h.free 4 (by omega)
  have HH := hid h
  clear h
  cases ho : S.online
  · go_enter Try.func18, Try.ntmps18
    go_wp2_with (go_at_call 38; refine (online_any HH.out).mono ?_; rintro e w' ⟨rfl, rfl⟩; rw [ho])
    go_ret
    exact ⟨rfl, HH.out, Keep.refl _ _ _⟩
  · have hl := online_some ho
    by_cases ht : t < S.term
    · go_enter Try.func18, Try.ntmps18
      go_wp2_with (go_at_call 38; refine (online_any HH.out).mono ?_; rintro e w' ⟨rfl, rfl⟩; rw [ho])
      go_ret
      exact ⟨by simp, by simpa [ht] using HH.out, Keep.refl _ _ _⟩
    · cases hsl : S.slot s
      · go_enter Try.func18, Try.ntmps18
        go_wp2_with (first | (go_at_call 38; refine (online_any HH.out).mono ?_; rintro e w' ⟨rfl, rfl⟩; rw [ho]) | (go_at_call 39; refine (slot_any HH.out s).mono ?_; rintro e w' ⟨rfl, rfl⟩; rw [hsl]))
        go_ret
        exact ⟨by simp, by simpa [ht] using HH.out, Keep.refl _ _ _⟩
      · by_cases hd : d.size = 36
        · have hs0 := slot_some hsl
          have hk := at_lt s hl
          go_enter Try.func18, Try.ntmps18
          go_wp2_with (first | (go_at_call 38; refine (online_any HH.out).mono ?_; rintro e w' ⟨rfl, rfl⟩; rw [ho]) | (go_at_call 39; refine (slot_any HH.out s).mono ?_; rintro e w' ⟨rfl, rfl⟩; rw [hsl]))
          have h1 := HH.out.term t
          have HT := hid h1
          have hk1 : Keep a b w (w.setCell ⟨a, 4, none⟩ (.int .i64 t)) := (Keep.refl a b w).setCell _ _ (.inl rfl)
          have HK := hid hk1
          clear h1 hk1
          refine (cell_any HT.out s hs0 hl hm).mono ?_
          rintro e w' ⟨rfl, n1, rfl⟩
          have hth := (HT.out.drewN n1).secs.free (S.at s) hk
          go_wp2_with (refine wpList_store_mid rfl 78 (.tmp 64) (.tmp 63) rfl b (S.at s * 3) #[.string d, .bool false, .bool false] rfl rfl hth cell_size (sec_one _ _ _) ?_)
          go_ret
          exact ⟨rfl, (HT.out.drewN n1).write (S.at s) ⟨d, false, false⟩ hk, Keep.setCells _ _ _ (HK.out.ofBelow (below_drew _ n1))⟩
        · go_enter Try.func18, Try.ntmps18
          go_wp2_with (first | (go_at_call 38; refine (online_any HH.out).mono ?_; rintro e w' ⟨rfl, rfl⟩; rw [ho]) | (go_at_call 39; refine (slot_any HH.out s).mono ?_; rintro e w' ⟨rfl, rfl⟩; rw [hsl]))
          go_ret
          exact ⟨by simp, by simpa [ht, hd] using HH.out, Keep.refl _ _ _⟩

def DS.fence (S : DS) (t : Int) : Int × DS :=
  if S.online = false then (105, S) else if t < S.term then (106, S) else (0, { S with term := t })
set_option maxHeartbeats 1000000 in
theorem fence_any (h : DrvAt w a b S pv) (t : Int) :
    Calls Try.prog 23 #[.pointer (some ⟨a, 0, none⟩), .int .i64 t] w fun e w' => e = .returned (.int .i64 (S.fence t).1) ∧ DrvAt w' a b (S.fence t).2 pv ∧ Keep a b w w' := by
  unfold DS.fence
  obtain ⟨c0, c1, c2, c3, c4, c5⟩ := h.cells
  have f4 := h.free 4 (by omega)
  have HH := hid h
  clear h
  cases ho : S.online
  · go_enter Try.func23, Try.ntmps23
    go_wp2_with (go_at_call 38; refine (online_any HH.out).mono ?_; rintro e w' ⟨rfl, rfl⟩; rw [ho])
    go_ret
    exact ⟨rfl, HH.out, Keep.refl _ _ _⟩
  · by_cases ht : t < S.term
    · go_enter Try.func23, Try.ntmps23
      go_wp2_with (go_at_call 38; refine (online_any HH.out).mono ?_; rintro e w' ⟨rfl, rfl⟩; rw [ho])
      go_ret
      exact ⟨by simp, by simpa [ht] using HH.out, Keep.refl _ _ _⟩
    · go_enter Try.func23, Try.ntmps23
      go_wp2_with (go_at_call 38; refine (online_any HH.out).mono ?_; rintro e w' ⟨rfl, rfl⟩; rw [ho])
      go_ret
      exact ⟨by simp, by simpa [ht] using HH.out.term t, (Keep.refl a b w).setCell _ _ (.inl rfl)⟩
set_option maxHeartbeats 1000000 in
theorem status_any (h : DrvAt w a b S pv) :
    Calls Try.prog 25 #[.pointer (some ⟨a, 0, none⟩)] w fun e w' => e = .returned (.agg #[.bool S.online, .bool S.gone, .int .i64 S.term]) ∧ Below w.heap.size w w' := by
  obtain ⟨c0, c1, c2, c3, c4, c5⟩ := h.cells
  have HH := hid h
  clear h
  go_enter Try.func25, Try.ntmps25
  go_wp2_with fail
  have h1 := HH.out.alloc (.cells #[.bool false, .bool false, .int .i64 0] 45)
  have hg1 : (w.alloc (.cells #[.bool false, .bool false, .int .i64 0] 45)).heap[w.heap.size]? = some (.cells #[.bool false, .bool false, .int .i64 0] 45 (0, 0)) := heap_alloc_new w _
  have hb1 : Below w.heap.size w (w.alloc (.cells #[.bool false, .bool false, .int .i64 0] 45)) := (Below.refl _ _).alloc (Nat.le_refl _) _
  obtain ⟨d0, d1, d2, d3, d4, d5⟩ := h1.cells
  have H1 := hid h1
  clear h1 c0 c1 c2 c3 c4 c5 HH
  generalize w.alloc (.cells #[.bool false, .bool false, .int .i64 0] 45) = w1 at *
  refine wp_region_quiet_tail 9 (fun w' => ∃ n, w' = w1.drewN n) ⟨1, rfl⟩ (by kernel_rfl) (by kernel_rfl) ?_
  simp only [List.take_succ_cons, List.take_zero, List.drop_succ_cons, List.drop_zero]
  repeat (go_big_quiet_step ((first | (go_at_call 38; exact quiet_left (online_any (H1.out.drewN _))) | (go_at_call 43; exact quiet_left (gone_any (H1.out.drewN _))))))
  refine wpQuiet_nil ?_
  rintro _ ⟨nq, rfl⟩
  refine wpList_store_row rfl 45 (.tmp 2) (.tmp 14) rfl w.heap.size #[.bool S.online, .bool S.gone, .int .i64 S.term] rfl rfl 45 _ hg1 status_size rfl (status_one _ _ _) ?_
  have hbb : Below w.heap.size w ((w1.drewN nq).setRow w.heap.size #[.bool S.online, .bool S.gone, .int .i64 S.term]) := below_setRow (hb1.trans ((below_drew w1 nq).mono hb1.size)) (Nat.le_refl _) _
  have hgg : ((w1.drewN nq).setRow w.heap.size #[.bool S.online, .bool S.gone, .int .i64 S.term]).heap[w.heap.size]? = some (.cells #[.bool S.online, .bool S.gone, .int .i64 S.term] 45 (0, 0)) := setRow_heap (w1.drewN nq) _ _ _ _ _ hg1
  generalize (w1.drewN nq).setRow w.heap.size #[.bool S.online, .bool S.gone, .int .i64 S.term] = w2 at hbb hgg ⊢
  go_wp2
  refine bodyPost_ret (results_cell_row Try.results25 _ _ w.heap.size _ _ _ _ rfl hgg Try.underlying45 rfl status_size) rfl ⟨rfl, hbb⟩
end
end Go.Proofs.Ytiodfnjblimmbaa
