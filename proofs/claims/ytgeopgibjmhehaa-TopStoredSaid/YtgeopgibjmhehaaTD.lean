/- The drive's methods that only read; Fence, Status. -/
import Derived.Test.YtgeopgibjmhehaaEDrv
namespace Go.Proofs.Ytgeopgibjmhehaa
open Go Go.RowKit Go.Sort

theorem len_zero (n : Nat) : ((n : Int) == 0) = (n == 0) := by rw [Bool.eq_iff_iff]; simp
theorem below_drew (w : World) (n : Nat) : Below w.heap.size w (w.drewN n) := ⟨rfl, rfl, rfl, Nat.le_refl _, fun _ _ => rfl⟩
theorem status_size : (Try.prog.info? 73).map (·.size) = some 3 := by kernel_rfl
theorem status_one (x y : Bool) (t : Int) : (#[Value.bool x, .bool y, .int .i64 t]).all (·.oneCell') = true := by kernel_rfl
theorem len_eq_zero {S : Dv} (hS : S.Ok) : ((S.secs.length : Int) == 0) = false := by
  have := hS.one
  rw [beq_eq_false_iff_ne]; omega

section
variable {w : World} {o p : Own} {a b c : Nat} {pv : Value} {S : Dv}
theorem gone_any (h : DrvB w o p a b c pv S) (hS : S.Ok) :
    Calls Try.prog 26 #[.pointer (some ⟨a, 0, none⟩)] w fun e w' => e = .returned (.bool S.dead) ∧ w = w' := by
  obtain ⟨c0, c1, c2, c3, c4, c5⟩ := h.cells
  have hl := hS.one
  cases hd : S.dead
  · rw [hd] at c3
    go_enter Try.func26, Try.ntmps26
    go_wp2
    go_ret
    exact ⟨by show Ending.returned (Value.bool ((S.secs.length : Int) == 0)) = _; rw [len_eq_zero hS], rfl⟩
  · rw [hd] at c3
    go_enter Try.func26, Try.ntmps26
    go_wp2
    go_ret
    exact ⟨by simp, rfl⟩
theorem online_any (h : DrvB w o p a b c pv S) (hS : S.Ok) :
    Calls Try.prog 22 #[.pointer (some ⟨a, 0, none⟩)] w fun e w' => e = .returned (.bool S.online) ∧ w = w' := by
  obtain ⟨c0, c1, c2, c3, c4, c5⟩ := h.cells
  have HS := hid hS
  clear hS
  unfold Dv.online
  cases hg : S.dead
  · go_enter Try.func22, Try.ntmps22
    go_wp2_with (go_at_call 26; refine (gone_any h HS.out).mono ?_; rintro e w' ⟨rfl, rfl⟩; rw [hg])
    go_ret
    exact ⟨by simp, rfl⟩
  · go_enter Try.func22, Try.ntmps22
    go_wp2_with (go_at_call 26; refine (gone_any h HS.out).mono ?_; rintro e w' ⟨rfl, rfl⟩; rw [hg])
    go_ret
    exact ⟨by simp, rfl⟩
theorem claim_any (h : DrvB w o p a b c pv S) :
    Calls Try.prog 29 #[.pointer (some ⟨a, 0, none⟩)] w fun e w' => e = .returned (.int .i64 S.claim) ∧ w = w' := by
  obtain ⟨c0, c1, c2, c3, c4, c5⟩ := h.cells
  go_enter Try.func29, Try.ntmps29
  go_wp2
  go_ret
  exact ⟨rfl, rfl⟩
theorem slot_any (h : DrvB w o p a b c pv S) (s : Int) :
    Calls Try.prog 23 #[.pointer (some ⟨a, 0, none⟩), .int .i64 s] w fun e w' => e = .returned (.bool (S.slot s)) ∧ w = w' := by
  unfold Dv.slot
  by_cases h0 : 0 ≤ s
  · go_enter Try.func23, Try.ntmps23
    go_wp2_with (go_at_call 29; refine (claim_any h).mono ?_; rintro e w' ⟨rfl, rfl⟩)
    go_ret
    exact ⟨by simp [h0], rfl⟩
  · go_enter Try.func23, Try.ntmps23
    go_wp2_with (go_at_call 29; refine (claim_any h).mono ?_; rintro e w' ⟨rfl, rfl⟩)
    go_ret
    exact ⟨by rw [decide_eq_false (by omega)]; rfl, rfl⟩
theorem cell_any (h : DrvB w o p a b c pv S) (hS : S.Ok) (s : Int) (hs : 0 ≤ s) :
    Calls Try.prog 24 #[.pointer (some ⟨a, 0, none⟩), .int .i64 s] w fun e w' => e = .returned (.pointer (some ⟨b, S.at_ s * 3, none⟩)) ∧ ∃ n, w' = w.drewN n := by
  obtain ⟨c0, c1, c2, c3, c4, c5⟩ := h.cells
  have hl := hS.one
  have hm : S.secs.length ≤ 128 := by have := hS.le; have := hS.top; omega
  have ht : s.tmod (S.secs.length : Int) = ((S.at_ s : Nat) : Int) := by
    unfold Dv.at_
    rw [Int.tmod_eq_emod_of_nonneg hs, Int.toNat_of_nonneg (Int.emod_nonneg _ (by omega))]
  have hlt : S.at_ s < S.secs.length := S.at_lt hS s
  generalize S.at_ s = k at *
  clear hS
  go_enter Try.func24, Try.ntmps24
  go_wp2_with fail
  go_big_quiet (fail)
  go_wp2
  go_ret
  exact ⟨rfl, nq, rfl⟩
theorem slot_some {S : Dv} {s : Int} (h : S.slot s = true) : 0 ≤ s := by
  unfold Dv.slot at h
  simp at h
  exact h.1
set_option maxHeartbeats 1000000 in
theorem read_any (h : DrvB w o p a b c pv S) (hS : S.Ok) (s : Int) :
    Calls Try.prog 30 #[.pointer (some ⟨a, 0, none⟩), .int .i64 s] w fun e w' => e = .returned (.tuple #[.string (S.read s).1, .int .i64 (S.read s).2]) ∧ ∃ n, w' = w.drewN n := by
  have HH := hid h
  have HS := hid hS
  clear h hS
  unfold Dv.read
  cases ho : S.online
  · go_enter Try.func30, Try.ntmps30
    go_wp2_with (go_at_call 22; refine (online_any HH.out HS.out).mono ?_; rintro e w' ⟨rfl, rfl⟩; rw [ho])
    go_ret2
    exact ⟨rfl, 0, rfl⟩
  · cases hsl : S.slot s
    · go_enter Try.func30, Try.ntmps30
      go_wp2_with (first | (go_at_call 22; refine (online_any HH.out HS.out).mono ?_; rintro e w' ⟨rfl, rfl⟩; rw [ho]) | (go_at_call 23; refine (slot_any HH.out s).mono ?_; rintro e w' ⟨rfl, rfl⟩; rw [hsl]))
      go_ret2
      exact ⟨rfl, 0, rfl⟩
    · have hs0 := slot_some hsl
      have hget := S.get_eq HS.out s
      obtain ⟨sd, su, sm, hsec⟩ : ∃ sd su sm, S.get s = ⟨sd, su, sm⟩ := ⟨_, _, _, rfl⟩
      have hcs : ∀ n, (w.drewN n).cell? ⟨b, S.at_ s * 3, none⟩ = some (.string sd) ∧ (w.drewN n).cell? ⟨b, S.at_ s * 3 + 1, none⟩ = some (.bool su) := by
        intro n
        obtain ⟨c0, c1, _⟩ := (HH.out.drewN n).secs.cells (S.at_ s) (S.at_lt HS.out s)
        rw [← hget, hsec] at c0 c1
        exact ⟨c0, c1⟩
      rw [hsec]
      have HCS := hid hcs
      clear hget hsec hcs
      cases su
      · go_enter Try.func30, Try.ntmps30
        go_wp2_with (first | (go_at_call 22; refine (online_any HH.out HS.out).mono ?_; rintro e w' ⟨rfl, rfl⟩; rw [ho]) | (go_at_call 23; refine (slot_any HH.out s).mono ?_; rintro e w' ⟨rfl, rfl⟩; rw [hsl]))
        refine (cell_any HH.out HS.out s hs0).mono ?_
        rintro e w' ⟨rfl, n1, rfl⟩
        obtain ⟨c0, c1⟩ := HCS.out n1
        go_wp2_with fail
        refine (cell_any (HH.out.drewN n1) HS.out s hs0).mono ?_
        rintro e w' ⟨rfl, n2, rfl⟩
        obtain ⟨d0, d1⟩ := HCS.out (n1 + n2)
        go_wp2
        go_ret2
        exact ⟨rfl, n1 + n2, rfl⟩
      · go_enter Try.func30, Try.ntmps30
        go_wp2_with (first | (go_at_call 22; refine (online_any HH.out HS.out).mono ?_; rintro e w' ⟨rfl, rfl⟩; rw [ho]) | (go_at_call 23; refine (slot_any HH.out s).mono ?_; rintro e w' ⟨rfl, rfl⟩; rw [hsl]))
        refine (cell_any HH.out HS.out s hs0).mono ?_
        rintro e w' ⟨rfl, n1, rfl⟩
        obtain ⟨c0, c1⟩ := HCS.out n1
        go_wp2
        go_ret2
        exact ⟨rfl, n1, rfl⟩
set_option maxHeartbeats 1000000 in
theorem status_any (h : DrvB w o p a b c pv S) (hS : S.Ok) :
    Calls Try.prog 28 #[.pointer (some ⟨a, 0, none⟩)] w fun e w' => e = .returned (.agg #[.bool S.online, .bool S.dead, .int .i64 S.term]) ∧ Below w.heap.size w w' := by
  obtain ⟨c0, c1, c2, c3, c4, c5⟩ := h.cells
  have HH := hid h
  have HS := hid hS
  clear h hS
  go_enter Try.func28, Try.ntmps28
  go_wp2_with fail
  have hb1 : Below w.heap.size w (w.alloc (.cells #[.bool false, .bool false, .int .i64 0] 73)) := (Below.refl _ _).alloc (Nat.le_refl _) _
  have h1 := HH.out.below hb1
  have hg1 : (w.alloc (.cells #[.bool false, .bool false, .int .i64 0] 73)).heap[w.heap.size]? = some (.cells #[.bool false, .bool false, .int .i64 0] 73 (0, 0)) := heap_alloc_new w _
  obtain ⟨d0, d1, d2, d3, d4, d5⟩ := h1.cells
  have H1 := hid h1
  clear h1 c0 c1 c2 c3 c4 c5 HH
  generalize w.alloc (.cells #[.bool false, .bool false, .int .i64 0] 73) = w1 at *
  refine wp_region_quiet_tail 9 (fun w' => ∃ n, w' = w1.drewN n) ⟨1, rfl⟩ (by kernel_rfl) (by kernel_rfl) ?_
  simp only [List.take_succ_cons, List.take_zero, List.drop_succ_cons, List.drop_zero]
  repeat (go_big_quiet_step ((first | (go_at_call 22; exact quiet_left (online_any (H1.out.drewN _) HS.out)) | (go_at_call 26; exact quiet_left (gone_any (H1.out.drewN _) HS.out)))))
  refine wpQuiet_nil ?_
  rintro _ ⟨nq, rfl⟩
  refine wpList_store_row rfl 73 (.tmp 2) (.tmp 14) rfl w.heap.size #[.bool S.online, .bool S.dead, .int .i64 S.term] rfl rfl 73 _ hg1 status_size rfl (status_one _ _ _) ?_
  have hbb : Below w.heap.size w ((w1.drewN nq).setRow w.heap.size #[.bool S.online, .bool S.dead, .int .i64 S.term]) := below_setRow (hb1.trans ((below_drew w1 nq).mono hb1.size)) (Nat.le_refl _) _
  have hgg : ((w1.drewN nq).setRow w.heap.size #[.bool S.online, .bool S.dead, .int .i64 S.term]).heap[w.heap.size]? = some (.cells #[.bool S.online, .bool S.dead, .int .i64 S.term] 73 (0, 0)) := setRow_heap (w1.drewN nq) _ _ _ _ _ hg1
  generalize (w1.drewN nq).setRow w.heap.size #[.bool S.online, .bool S.dead, .int .i64 S.term] = w2 at hbb hgg ⊢
  go_wp2
  refine bodyPost_ret (results_cell_row Try.results28 _ _ w.heap.size _ _ _ _ rfl hgg Try.underlying73 rfl status_size) rfl ⟨rfl, hbb⟩
end
end Go.Proofs.Ytgeopgibjmhehaa

/- wipe, New, Write, Erase. -/
namespace Go.Proofs.Ytgeopgibjmhehaa
open Go Go.RowKit Go.Sort

set_option maxHeartbeats 1000000 in
theorem wipe_c (a b n c : Nat) (l : List Sec) (w : World) (hn : n = l.length) (hm : n ≤ 1000000) (hcap : n ≤ c)
    (hc : w.cell? ⟨a, 1, none⟩ = some (.slice (some ⟨b, 0, none⟩) n c)) (hs : SecsAt w b l) (ha : a < w.heap.size) (hab : a ≠ b) :
    Calls Try.prog 21 #[.pointer (some ⟨a, 0, none⟩)] w fun e w' => e = .returned (.tuple #[]) ∧ SecsAt w' b (List.replicate n blankSec) ∧ w.grownBy w' (some b) := by
  go_enter Try.func21, Try.ntmps21
  go_wp2_with fail
  go_loopw [8] (fun i wr => ∃ k : Nat, k ≤ n ∧ i = .int .i64 k ∧ SecsAt wr b (wiped l k) ∧ w.grownBy wr (some b)) (fun i _ => (n - intOf i).toNat)
  case atStart => exact ⟨0, Nat.zero_le _, rfl, hs, grownBy_refl _ _⟩
  case round =>
    obtain ⟨k, hk, rfl, hr, hg⟩ := hrel
    by_cases hlt : k < n
    · have hcr : wr.cell? ⟨a, 1, none⟩ = some (.slice (some ⟨b, 0, none⟩) n c) := by
        rw [World.cell?_of_block (w := w) (a := ⟨a, 1, none⟩) (hg.block a ha (by intro e; exact hab (Option.some.inj e)))]; exact hc
      go_wp2_with fail
      refine wp_region_quiet_tail 7 (fun w' => ∃ p : Regrown, w' = grow (redrawn wr p.d) p.os) ⟨⟨wr.drawn + 1, #[]⟩, by rw [grow_empty]; rfl⟩ (by kernel_rfl) (by kernel_rfl) ?_
      simp only [List.take_succ_cons, List.take_zero, List.drop_succ_cons, List.drop_zero]
      have hcg := fun d os => cell_regrown hcr d os
      repeat (go_big_quiet_step ((go_at_call 35; exact Calls.regrown_of (zero_any _))))
      refine wpQuiet_nil ?_
      rintro _ ⟨q, rfl⟩
      have hb2 := below_regrown wr q.d q.os
      have hr2 := hr.below hb2 hr.lt
      have hg2 := grown_below hg hb2
      generalize grow (redrawn wr q.d) q.os = w2 at hb2 hr2 hg2 ⊢
      have hkl : k < (wiped l k).length := by rw [wiped_length l k (by omega)]; omega
      have hst := hr2.store k blankSec hkl
      have hth := hr2.free k hkl
      rw [wiped_set l k (by omega)] at hst
      clear hcg hcr hr hr2 hb2 hs hc
      go_wp2_with (refine wpList_store_mid rfl 67 (.tmp 18) (.tmp 17) rfl b (k * 3) #[.string blank, .bool false, .bool false] rfl rfl hth cell_size (sec_one _ _ _) ?_)
      go_roundw
      case rel => exact ⟨k + 1, by omega, by go_num, hst, grown_setCells _ _ _ hg2⟩
      case measure => (simp [intOf]; try omega)
    · obtain rfl : k = n := by omega
      go_wp2
      go_end0
      refine ⟨rfl, hr.eq ?_, hg⟩
      unfold wiped
      rw [hn, List.drop_length, List.append_nil]

/-- A new drive. -/
def newDv (c : Int) (r : Nat) : Dv := ⟨c, List.replicate r blankSec, false, false, 0, []⟩
theorem newDv_ok (c : Int) (r : Nat) (h1 : 1 ≤ r) (h2 : (r : Int) ≤ c) (h3 : c ≤ 128) : (newDv c r).Ok :=
  ⟨by simpa [newDv] using h1, by simpa [newDv] using h2, h3, fun s hs => by rw [(List.mem_replicate.1 hs).2]; rfl, fun f hf => by simp [newDv] at hf⟩
theorem new_e (c : Int) (r : Nat) (w : World) (h1 : 1 ≤ r) (h2 : (r : Int) ≤ c) (h3 : c ≤ 128) :
    Calls Try.prog 9 #[.int .i64 c, .int .i64 r] w fun e w' => ∃ a, e = .returned (.tuple #[.pointer (some ⟨a, 0, none⟩), .int .i64 0]) ∧ Drv w' (Grow NoOwn w w') a (newDv c r) ∧ Below w.heap.size w w' := by
  refine (new_yes c r w h1 h2 h3).mono ?_
  rintro e w' ⟨a, b, ha, hb, rfl, hd, hbl⟩
  refine ⟨a, rfl, ⟨NoOwn, b, r, .slice none 0 0, ⟨by simpa [newDv, DS.vals] using hd.vals, hd.secs, hd.ne, OwnSl.nil _ _ _, fun e => e, fun e => e, fun _ e => e.elim, .inr ⟨ha, hd.vals.lt⟩, .inr ⟨hb, hd.secs.lt⟩, fun k e => ?_, ?_⟩⟩, hbl⟩
  · rcases e with e | e
    · exact e.elim
    · exact e.2
  · unfold maxLen; simp [newDv]; omega

theorem flt_size : (Try.prog.info? 42).map (·.size) = some 5 := by kernel_rfl
theorem Try.info_flt : (Try.prog.info? 42).map (fun i => (i.zero, i.size, i.bytes)) = some (some (.agg #[.int .i64 0, .int .i64 0, .int .i64 0, .int .i64 0, .int .i64 0]), 5, 40) := by kernel_rfl
theorem fltCells_cons (f : Flt) (r : List Flt) : fltCells (f :: r) = f.cells ++ fltCells r := rfl
/-- 's[1:]' of the pending faults. -/
theorem OwnSl.tail {w : World} {p : Own} {g off cap : Nat} {f : Flt} {r : List Flt} (h : OwnSl w p 5 (.slice (some ⟨g, off, none⟩) (r.length + 1) cap) (r.length + 1) (fltCells (f :: r))) :
    OwnSl w p 5 (.slice (if cap = 1 then some ⟨g, off, none⟩ else some ⟨g, off + 5, none⟩) r.length (cap - 1)) r.length (fltCells r) := by
  obtain ⟨h1, h2⟩ := h
  rcases h2 with ⟨h2, _⟩ | ⟨g', off', cap', e, hp, hg, hn, hc, hcell, hfree⟩
  · cases h2
  · injection e with e1 _ e3
    injection e1 with e1
    injection e1 with e1 e2
    subst e1; subst e2; subst e3
    refine ⟨fltCells_length r, .inr ?_⟩
    by_cases h1c : cap = 1
    · rw [if_pos h1c]
      refine ⟨g, off, cap - 1, rfl, hp, hg, by omega, by omega, fun j u hu => ?_, fun j hj => hfree j (by omega)⟩
      have hr0 : r = [] := List.eq_nil_of_length_eq_zero (by omega)
      subst hr0
      simp [fltCells] at hu
    · rw [if_neg h1c]
      refine ⟨g, off + 5, cap - 1, rfl, hp, hg, by omega, by omega, fun j u hu => ?_, fun j hj => ?_⟩
      · have := hcell (5 + j) u (by
          rw [fltCells_cons, List.getElem?_append_right (by simp [Flt.cells])]
          simpa [Flt.cells] using hu)
        rwa [show off + (5 + j) = off + 5 + j by omega] at this
      · have := hfree (5 + j) (by omega)
        rwa [show off + (5 + j) = off + 5 + j by omega] at this
theorem OwnSl.head {w : World} {p : Own} {g off cap : Nat} {f : Flt} {r : List Flt} (h : OwnSl w p 5 (.slice (some ⟨g, off, none⟩) (r.length + 1) cap) (r.length + 1) (fltCells (f :: r))) :
    w.cell? ⟨g, off, none⟩ = some (.int .i64 f.kind) ∧ w.cell? ⟨g, off + 1, none⟩ = some (.int .i64 f.slot) ∧ w.cell? ⟨g, off + 2, none⟩ = some (.int .i64 f.bit) ∧ w.cell? ⟨g, off + 3, none⟩ = some (.int .i64 f.mask) ∧ w.cell? ⟨g, off + 4, none⟩ = some (.int .i64 f.dest) := by
  obtain ⟨h1, h2⟩ := h
  rcases h2 with ⟨h2, _⟩ | ⟨g', off', cap', e, hp, hg, hn, hc, hcell, hfree⟩
  · cases h2
  · injection e with e1 _ e3
    injection e1 with e1
    injection e1 with e1 e2
    subst e1; subst e2; subst e3
    exact ⟨hcell 0 _ rfl, hcell 1 _ rfl, hcell 2 _ rfl, hcell 3 _ rfl, hcell 4 _ rfl⟩

section
variable {w : World} {o p : Own} {a b c : Nat} {pv : Value} {S : Dv}
set_option maxHeartbeats 1000000 in
theorem write_nil (h : DrvB w o p a b c pv S) (hS : S.Ok) (hp : S.pend = []) (t s : Int) (d : ByteArray) :
    Calls Try.prog 10 #[.pointer (some ⟨a, 0, none⟩), .int .i64 t, .int .i64 s, .string d] w fun e w' => e = .returned (.int .i64 (S.write t s d).1) ∧ Drv w' o a (S.write t s d).2 ∧ Fr o w w' := by
  unfold Dv.write
  obtain ⟨c0, c1, c2, c3, c4, c5⟩ := h.cells
  have f4 := h.free 4 (by omega)
  have hstore : Dv.store { S with term := t } s d = { S with term := t, secs := S.secs.set (S.at_ s) ⟨d, false, false⟩ } := by unfold Dv.store; rw [hp]; rfl
  have HST := hid hstore
  have hpv := h.pend
  rw [hp] at hpv
  obtain ⟨A, cap, rfl, _⟩ := hpv.form
  have HH := hid h
  have HS := hid hS
  clear h hS hpv hstore hp
  cases ho : S.online
  · go_enter Try.func10, Try.ntmps10
    go_wp2_with (go_at_call 22; refine (online_any HH.out HS.out).mono ?_; rintro e w' ⟨rfl, rfl⟩; rw [ho])
    go_ret
    exact ⟨rfl, ⟨_, _, _, _, HH.out⟩, Fr.refl _ _⟩
  · by_cases ht : t < S.term
    · go_enter Try.func10, Try.ntmps10
      go_wp2_with (go_at_call 22; refine (online_any HH.out HS.out).mono ?_; rintro e w' ⟨rfl, rfl⟩; rw [ho])
      go_ret
      exact ⟨by simp, by simpa [ht] using ⟨_, _, _, _, HH.out⟩, Fr.refl _ _⟩
    · cases hsl : S.slot s
      · go_enter Try.func10, Try.ntmps10
        go_wp2_with (first | (go_at_call 22; refine (online_any HH.out HS.out).mono ?_; rintro e w' ⟨rfl, rfl⟩; rw [ho]) | (go_at_call 23; refine (slot_any HH.out s).mono ?_; rintro e w' ⟨rfl, rfl⟩; rw [hsl]))
        go_ret
        exact ⟨by simp, by simpa [ht] using ⟨_, _, _, _, HH.out⟩, Fr.refl _ _⟩
      · by_cases hd : d.size = 36
        · have hs0 := slot_some hsl
          go_enter Try.func10, Try.ntmps10
          go_wp2_with (first | (go_at_call 22; refine (online_any HH.out HS.out).mono ?_; rintro e w' ⟨rfl, rfl⟩; rw [ho]) | (go_at_call 23; refine (slot_any HH.out s).mono ?_; rintro e w' ⟨rfl, rfl⟩; rw [hsl]))
          have h1 := HH.out.term t
          have HT := hid h1
          have hk1 : Fr o w (w.setCell ⟨a, 4, none⟩ (.int .i64 t)) := (Fr.refl o w).setCell _ _ (.inl HH.out.oa)
          have HK := hid hk1
          clear h1 hk1
          refine (cell_any HT.out (HS.out.same rfl rfl (fun _ e => e)) s hs0).mono ?_
          rintro e w' ⟨rfl, n1, rfl⟩
          have hk : S.at_ s < S.secs.length := S.at_lt HS.out s
          have hth := (HT.out.drewN n1).secs.free (S.at_ s) hk
          go_wp2_with (refine wpList_store_mid rfl 67 (.tmp 64) (.tmp 63) rfl b (S.at_ s * 3) #[.string d, .bool false, .bool false] rfl rfl hth cell_size (sec_one _ _ _) ?_)
          go_ret
          refine ⟨by simp, ?_, Fr.setCells (.inl HH.out.ob) _ _ _ (HK.out.drewN n1)⟩
          have := (HT.out.drewN n1).write (S.at_ s) ⟨d, false, false⟩ hk
          simp only [HST.out]
          exact ⟨_, _, _, _, this⟩
        · go_enter Try.func10, Try.ntmps10
          go_wp2_with (first | (go_at_call 22; refine (online_any HH.out HS.out).mono ?_; rintro e w' ⟨rfl, rfl⟩; rw [ho]) | (go_at_call 23; refine (slot_any HH.out s).mono ?_; rintro e w' ⟨rfl, rfl⟩; rw [hsl]))
          go_ret
          exact ⟨by simp, by simpa [ht, hd] using ⟨_, _, _, _, HH.out⟩, Fr.refl _ _⟩
end
end Go.Proofs.Ytgeopgibjmhehaa

/- Write where faults are pending; Write; Erase. -/
namespace Go.Proofs.Ytgeopgibjmhehaa
open Go Go.RowKit Go.Sort

section
variable {w : World} {o p : Own} {a b c : Nat} {pv : Value} {S : Dv}
theorem Fr.grow {o : Own} {w w1 : World} (_ : Fr o w w1) : ∀ k, o k → Grow o w w1 k := fun _ e => .inl e
theorem Drv.growTo {w w' : World} {o : Own} {a : Nat} {S : Dv} (h : Drv w' o a S) (hf : Fr o w w') (hu : Under w o) : Drv w' (Grow o w w') a S := by
  obtain ⟨p, b, c, pv, h⟩ := h
  exact ⟨p, b, c, pv, h.mono (fun _ e => .inl e) (hf.under hu)⟩
set_option maxRecDepth 100000 in
set_option maxHeartbeats 2000000 in
theorem write_cons (f : Flt) (r : List Flt) (h : DrvB w o p a b c pv S) (hS : S.Ok) (hp : S.pend = f :: r) (t s : Int) (d : ByteArray) :
    Calls Try.prog 10 #[.pointer (some ⟨a, 0, none⟩), .int .i64 t, .int .i64 s, .string d] w fun e w' => e = .returned (.int .i64 (S.write t s d).1) ∧ Drv w' o a (S.write t s d).2 ∧ Fr o w w' := by
  unfold Dv.write
  obtain ⟨c0, c1, c2, c3, c4, c5⟩ := h.cells
  have f4 := h.free 4 (by omega)
  have f5 := h.free 5 (by omega)
  have hfit := hS.pend f (by rw [hp]; exact List.mem_cons_self)
  have hstore : Dv.store { S with term := t } s d = if f.kind = 5 then { S with term := t, pend := r } else Dv.put { S with term := t, pend := r } f.dest ⟨d, false, false⟩ := by unfold Dv.store; rw [hp]
  have HST := hid hstore
  have hpv := h.pend
  rw [hp] at hpv
  obtain ⟨g, off, cap, rfl, hog, hgl, hnc, hcm, _, _⟩ := hpv.some_ (by simp)
  have HH := hid h
  have HS := hid hS
  have HPV := hid hpv
  have HP := hid hp
  clear h hS hstore hp
  cases ho : S.online
  · go_enter Try.func10, Try.ntmps10
    go_wp2_with (go_at_call 22; refine (online_any HH.out HS.out).mono ?_; rintro e w' ⟨rfl, rfl⟩; rw [ho])
    go_ret
    exact ⟨rfl, ⟨_, _, _, _, HH.out⟩, Fr.refl _ _⟩
  · by_cases ht : t < S.term
    · go_enter Try.func10, Try.ntmps10
      go_wp2_with (go_at_call 22; refine (online_any HH.out HS.out).mono ?_; rintro e w' ⟨rfl, rfl⟩; rw [ho])
      go_ret
      exact ⟨by simp, by simpa [ht] using ⟨_, _, _, _, HH.out⟩, Fr.refl _ _⟩
    · cases hsl : S.slot s
      · go_enter Try.func10, Try.ntmps10
        go_wp2_with (first | (go_at_call 22; refine (online_any HH.out HS.out).mono ?_; rintro e w' ⟨rfl, rfl⟩; rw [ho]) | (go_at_call 23; refine (slot_any HH.out s).mono ?_; rintro e w' ⟨rfl, rfl⟩; rw [hsl]))
        go_ret
        exact ⟨by simp, by simpa [ht] using ⟨_, _, _, _, HH.out⟩, Fr.refl _ _⟩
      · by_cases hd : d.size = 36
        · have hs0 := slot_some hsl
          clear c0 c1 c2 c3 c5 f5 hpv
          go_enter Try.func10, Try.ntmps10
          go_upto_region 10 with (first | (go_at_call 22; refine (online_any HH.out HS.out).mono ?_; rintro e w' ⟨rfl, rfl⟩; rw [ho]) | (go_at_call 23; refine (slot_any HH.out s).mono ?_; rintro e w' ⟨rfl, rfl⟩; rw [hsl]))
          have h1 := HH.out.term t
          have hk1 : Fr o w (w.setCell ⟨a, 4, none⟩ (.int .i64 t)) := (Fr.refl o w).setCell _ _ (.inl HH.out.oa)
          generalize w.setCell ⟨a, 4, none⟩ (.int .i64 t) = w1 at h1 hk1 ⊢
          obtain ⟨c0, c1, c2, c3, c4, c5⟩ := h1.cells
          have hpv := h1.pend
          dsimp only at hpv
          rw [HP.out] at hpv
          obtain ⟨g0, g1, g2, g3, g4⟩ := hpv.head
          have HPV := hid hpv
          have H1 := hid h1
          have HK := hid hk1
          clear hpv h1 hk1 c0 c1 c2 c3
          go_upto_region 12 with (fail)
          have hb2 : Below w1.heap.size w1 (w1.alloc (.cells #[.int .i64 f.kind, .int .i64 f.slot, .int .i64 f.bit, .int .i64 f.mask, .int .i64 f.dest] 42)) := (Below.refl _ _).alloc (Nat.le_refl _) _
          have hgq : (w1.alloc (.cells #[.int .i64 f.kind, .int .i64 f.slot, .int .i64 f.bit, .int .i64 f.mask, .int .i64 f.dest] 42)).heap[w1.heap.size]? = some (.cells #[.int .i64 f.kind, .int .i64 f.slot, .int .i64 f.bit, .int .i64 f.mask, .int .i64 f.dest] 42 (0, 0)) := heap_alloc_new w1 _
          have hqa : (a : Nat) ≠ w1.heap.size := by have := H1.out.vals.lt; omega
          have h2 := H1.out.below hb2
          have hk2 := HK.out.thenBelow hb2
          have hpv2 := HPV.out.below hb2
          clear g0 g1 g2 g3 g4 c4 c5 H1 HK HPV
          generalize w1.alloc (.cells #[.int .i64 f.kind, .int .i64 f.slot, .int .i64 f.bit, .int .i64 f.mask, .int .i64 f.dest] 42) = w2 at hb2 hgq h2 hk2 hpv2 ⊢
          generalize w1.heap.size = q at hgq hqa hb2 ⊢
          clear hb2
          have c5 := h2.cells.2.2.2.2.2
          have f5 := h2.free 5 (by omega)
          have hcap : 1 ≤ cap := by simp at hnc; omega
          have HQ := hid hgq
          have H2 := hid h2
          have HK2 := hid hk2
          have HPV2 := hid hpv2
          clear h2 hk2 hpv2 hgq
          have htail := OwnSl.tail HPV2.out
          have H3 : Hid (DrvB (w2.setCell ⟨a, 5, none⟩ (.slice (if cap = 1 then some ⟨g, off, none⟩ else some ⟨g, off + 5, none⟩) r.length (cap - 1))) o p a b c (.slice (if cap = 1 then some ⟨g, off, none⟩ else some ⟨g, off + 5, none⟩) r.length (cap - 1)) { S with term := t, pend := r }) :=
            H2.out.poke 5 _ (by omega) rfl rfl (htail.poke _ _ H2.out.pa) H2.out.pa H2.out.pb H2.out.po
          have HK3 : Hid (Fr o w (w2.setCell ⟨a, 5, none⟩ (.slice (if cap = 1 then some ⟨g, off, none⟩ else some ⟨g, off + 5, none⟩) r.length (cap - 1)))) := HK2.out.setCell _ _ (.inl H2.out.oa)
          have HQ3 : Hid ((w2.setCell ⟨a, 5, none⟩ (.slice (if cap = 1 then some ⟨g, off, none⟩ else some ⟨g, off + 5, none⟩) r.length (cap - 1))).heap[q]? = some (.cells #[.int .i64 f.kind, .int .i64 f.slot, .int .i64 f.bit, .int .i64 f.mask, .int .i64 f.dest] 42 (0, 0))) :=
            (Below.heap_setCell w2 _ _ q (Ne.symm hqa)).trans HQ.out
          clear htail HPV2 H2 HK2 HQ
          go_upto_region 13 with (fail)
          generalize (if cap = 1 then some (⟨g, off, none⟩ : Addr) else some ⟨g, off + 5, none⟩) = A3 at H3 HK3 HQ3 ⊢
          generalize w2.setCell ⟨a, 5, none⟩ (.slice A3 r.length (cap - 1)) = w3 at H3 HK3 HQ3 ⊢
          have k0 : w3.cell? ⟨q, 0, none⟩ = some (.int .i64 f.kind) := cell_block HQ3.out 0
          have k4 : w3.cell? ⟨q, 4, none⟩ = some (.int .i64 f.dest) := cell_block HQ3.out 4
          by_cases h5 : f.kind = 5
          · go_wp2
            go_ret
            refine ⟨by simp, ?_, HK3.out⟩
            simp only [HST.out, if_pos h5]
            exact ⟨_, _, _, _, H3.out⟩
          · have hf0 : 0 ≤ f.dest := by omega
            have hS3 : Dv.Ok { S with term := t, pend := r } := HS.out.same rfl rfl (fun x hx => by rw [HP.out]; exact List.mem_cons_of_mem _ hx)
            have HS3 := hid hS3
            clear hS3
            go_wp2_with fail
            refine (cell_any H3.out HS3.out f.dest hf0).mono ?_
            rintro e w' ⟨rfl, n1, rfl⟩
            have hk : Dv.at_ { S with term := t, pend := r } f.dest < S.secs.length := Dv.at_lt HS3.out f.dest
            have hth := (H3.out.drewN n1).secs.free _ hk
            go_wp2_with (refine wpList_store_mid rfl 67 (.tmp 64) (.tmp 63) rfl b (Dv.at_ { S with term := t, pend := r } f.dest * 3) #[.string d, .bool false, .bool false] rfl rfl hth cell_size (sec_one _ _ _) ?_)
            go_ret
            refine ⟨by simp, ?_, Fr.setCells (.inl HH.out.ob) _ _ _ (HK3.out.drewN n1)⟩
            have := (H3.out.drewN n1).write _ ⟨d, false, false⟩ hk
            simp only [HST.out, if_neg h5]
            exact ⟨_, _, _, _, this⟩
        · go_enter Try.func10, Try.ntmps10
          go_wp2_with (first | (go_at_call 22; refine (online_any HH.out HS.out).mono ?_; rintro e w' ⟨rfl, rfl⟩; rw [ho]) | (go_at_call 23; refine (slot_any HH.out s).mono ?_; rintro e w' ⟨rfl, rfl⟩; rw [hsl]))
          go_ret
          exact ⟨by simp, by simpa [ht, hd] using ⟨_, _, _, _, HH.out⟩, Fr.refl _ _⟩
theorem write_e {w : World} {o : Own} {a : Nat} {S : Dv} (h : Drv w o a S) (hS : S.Ok) (t s : Int) (d : ByteArray) :
    Calls Try.prog 10 #[.pointer (some ⟨a, 0, none⟩), .int .i64 t, .int .i64 s, .string d] w fun e w' => e = .returned (.int .i64 (S.write t s d).1) ∧ Drv w' o a (S.write t s d).2 ∧ Fr o w w' := by
  obtain ⟨p, b, c, pv, h⟩ := h
  cases hp : S.pend with
  | nil => exact write_nil h hS hp t s d
  | cons f r => exact write_cons f r h hS hp t s d
end
end Go.Proofs.Ytgeopgibjmhehaa

/- allowed, flip of a cell, Inject. -/
namespace Go.Proofs.Ytgeopgibjmhehaa
open Go Go.RowKit Go.Sort

theorem flt_one (f : Flt) : (#[Value.int .i64 f.kind, .int .i64 f.slot, .int .i64 f.bit, .int .i64 f.mask, .int .i64 f.dest]).all (·.oneCell') = true := by kernel_rfl
section
variable {w : World} {o p : Own} {a b c : Nat} {pv : Value} {S : Dv}
set_option maxHeartbeats 2000000 in
theorem allowed_any (h : DrvB w o p a b c pv S) (f : Flt) :
    Calls Try.prog 25 #[.pointer (some ⟨a, 0, none⟩), f.val] w fun e w' => e = .returned (.bool (Dv.valid S.claim f)) ∧ Below w.heap.size w w' := by
  have HB := hid ((Below.refl w.heap.size w).alloc (Nat.le_refl _) (.cells #[.int .i64 f.kind, .int .i64 f.slot, .int .i64 f.bit, .int .i64 f.mask, .int .i64 f.dest] 42))
  have H1 := hid (h.below HB.out)
  clear h
  unfold Dv.valid
  by_cases hk : f.kind = 1 ∨ f.kind = 2 ∨ f.kind = 3 ∨ f.kind = 5
  · rw [if_pos hk]
    rcases hk with hk | hk | hk | hk
    all_goals
      have hk' := (beq_iff_eq (a := f.kind)).2 hk
      clear hk
      go_enter Try.func25, Try.ntmps25
      go_wp2
      go_ret
      exact ⟨rfl, HB.out⟩
  · rw [if_neg hk]
    have k1 : (f.kind == 1) = false := by rw [beq_eq_false_iff_ne]; omega
    have k2 : (f.kind == 2) = false := by rw [beq_eq_false_iff_ne]; omega
    have k3 : (f.kind == 3) = false := by rw [beq_eq_false_iff_ne]; omega
    have k5 : (f.kind == 5) = false := by rw [beq_eq_false_iff_ne]; omega
    clear hk
    by_cases h7 : f.kind = 7
    · rw [if_pos h7]
      have hk' := (beq_iff_eq (a := f.kind)).2 h7
      clear h7
      go_enter Try.func25, Try.ntmps25
      go_wp2_with (go_at_call 23; refine (slot_any H1.out f.slot).mono ?_; rintro e w' ⟨rfl, rfl⟩)
      go_ret
      exact ⟨rfl, HB.out⟩
    · rw [if_neg h7]
      have k7 : (f.kind == 7) = false := by rw [beq_eq_false_iff_ne]; omega
      clear h7
      by_cases h4 : f.kind = 4
      · rw [if_pos h4]
        have hk' := (beq_iff_eq (a := f.kind)).2 h4
        clear h4
        have hsl : S.slot f.slot = decide (0 ≤ f.slot ∧ f.slot < S.claim) := rfl
        by_cases hs : 0 ≤ f.slot ∧ f.slot < S.claim
        · have hs' : S.slot f.slot = true := by rw [hsl, decide_eq_true hs]
          have HSL := hid hs'
          clear hsl hs'
          by_cases hb0 : 0 ≤ f.bit
          · by_cases hb1 : f.bit < 288
            · by_cases hm0 : 1 ≤ f.mask
              · have hd : decide ((0 ≤ f.slot ∧ f.slot < S.claim) ∧ 0 ≤ f.bit ∧ f.bit < 288 ∧ 1 ≤ f.mask ∧ f.mask ≤ 4294967295) = decide (f.mask ≤ 4294967295) := by
                  rw [decide_eq_decide]; omega
                rw [hd]
                clear hd hs
                go_enter Try.func25, Try.ntmps25
                go_wp2_with (go_at_call 23; refine (slot_any H1.out f.slot).mono ?_; rintro e w' ⟨rfl, rfl⟩; rw [HSL.out])
                go_ret
                exact ⟨rfl, HB.out⟩
              · rw [decide_eq_false (by omega)]
                clear hs
                go_enter Try.func25, Try.ntmps25
                go_wp2_with (go_at_call 23; refine (slot_any H1.out f.slot).mono ?_; rintro e w' ⟨rfl, rfl⟩; rw [HSL.out])
                go_ret
                exact ⟨rfl, HB.out⟩
            · rw [decide_eq_false (by omega)]
              clear hs
              go_enter Try.func25, Try.ntmps25
              go_wp2_with (go_at_call 23; refine (slot_any H1.out f.slot).mono ?_; rintro e w' ⟨rfl, rfl⟩; rw [HSL.out])
              go_ret
              exact ⟨rfl, HB.out⟩
          · rw [decide_eq_false (by omega)]
            clear hs
            go_enter Try.func25, Try.ntmps25
            go_wp2_with (go_at_call 23; refine (slot_any H1.out f.slot).mono ?_; rintro e w' ⟨rfl, rfl⟩; rw [HSL.out])
            go_ret
            exact ⟨rfl, HB.out⟩
        · have hs' : S.slot f.slot = false := by rw [hsl, decide_eq_false hs]
          have HSL := hid hs'
          rw [decide_eq_false (by omega)]
          clear hsl hs' hs
          go_enter Try.func25, Try.ntmps25
          go_wp2_with (go_at_call 23; refine (slot_any H1.out f.slot).mono ?_; rintro e w' ⟨rfl, rfl⟩; rw [HSL.out])
          go_ret
          exact ⟨rfl, HB.out⟩
      · rw [if_neg h4]
        have k4 : (f.kind == 4) = false := by rw [beq_eq_false_iff_ne]; omega
        clear h4
        by_cases h6 : f.kind = 6
        · rw [if_pos h6]
          have hk' := (beq_iff_eq (a := f.kind)).2 h6
          clear h6
          go_enter Try.func25, Try.ntmps25
          go_wp2_with (go_at_call 23; refine (slot_any H1.out f.dest).mono ?_; rintro e w' ⟨rfl, rfl⟩)
          go_ret
          exact ⟨rfl, HB.out⟩
        · rw [if_neg h6]
          have k6 : (f.kind == 6) = false := by rw [beq_eq_false_iff_ne]; omega
          clear h6
          go_enter Try.func25, Try.ntmps25
          go_wp2
          go_ret
          exact ⟨rfl, HB.out⟩
end
end Go.Proofs.Ytgeopgibjmhehaa
