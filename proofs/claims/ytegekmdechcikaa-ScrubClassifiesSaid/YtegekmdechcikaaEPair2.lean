/- Do: the calls that write. (Printed by wip/tools/mkdo.py.) -/
import Derived.Test.YtegekmdechcikaaEPair
namespace Go.Proofs.Ytegekmdechcikaa
open Go Go.RowKit Go.Sort

theorem ref_fence_e {w : World} {o : Own} {a : Nat} {S : Dv} (h : Ref w o a S) (t : Int) :
    Calls Try.prog 62 #[.pointer (some ⟨a, 0, none⟩), .int .i64 t] w fun e w' => e = .returned (.int .i64 (S.fence t).1) ∧ Ref w' o a (S.fence t).2 ∧ Fr o w w' := by
  obtain ⟨R, ⟨p, b, c, pv, h⟩, hr⟩ := h
  exact ref_fence h hr t
section
variable {w : World} {o1 o2 : Own} {a b : Nat} {S : Dv}
set_option maxRecDepth 100000 in
set_option maxHeartbeats 4000000 in
theorem do_write (h : Both w o1 o2 a b S) (hS : S.Ok) (hn : S.pend.length ≤ 900000) (x : Opr) (hk : x.kind = 1) :
    Calls Try.prog 35 #[.agg #[.pointer (some ⟨a, 0, none⟩), .pointer (some ⟨b, 0, none⟩)], x.val] w fun e w' => e = .returned (.bool true) ∧ Moved w o1 o2 a b (S.step x) w' := by
  have hstep : S.step x = (S.write x.term x.slot x.data).2 := by unfold Dv.step; simp [hk]
  rw [hstep]
  have e1 := (beq_iff_eq (a := x.kind) (b := 1)).2 hk
  have e2 : (x.kind == 2) = false := by rw [beq_eq_false_iff_ne]; omega
  have e3 : (x.kind == 3) = false := by rw [beq_eq_false_iff_ne]; omega
  have e4 : (x.kind == 4) = false := by rw [beq_eq_false_iff_ne]; omega
  have e5 : (x.kind == 5) = false := by rw [beq_eq_false_iff_ne]; omega
  have hba : Below w.heap.size w ((w.alloc (.cells #[.pointer (some ⟨a, 0, none⟩), .pointer (some ⟨b, 0, none⟩)] 54)).alloc (.cells (oprCells x).toArray 80)) := ((Below.refl _ _).alloc (Nat.le_refl _) _).alloc (by simp) _
  have hp0 : ((w.alloc (.cells #[.pointer (some ⟨a, 0, none⟩), .pointer (some ⟨b, 0, none⟩)] 54)).alloc (.cells (oprCells x).toArray 80)).heap[w.heap.size]? = some (.cells #[.pointer (some ⟨a, 0, none⟩), .pointer (some ⟨b, 0, none⟩)] 54 (0, 0)) := (Below.heap_alloc _ _ _ (by simp)).trans (heap_alloc_new w _)
  have hq0 : ((w.alloc (.cells #[.pointer (some ⟨a, 0, none⟩), .pointer (some ⟨b, 0, none⟩)] 54)).alloc (.cells (oprCells x).toArray 80)).heap[w.heap.size + 1]? = some (.cells (oprCells x).toArray 80 (0, 0)) := by
    have := heap_alloc_new (w.alloc (.cells #[.pointer (some ⟨a, 0, none⟩), .pointer (some ⟨b, 0, none⟩)] 54)) (.cells (oprCells x).toArray 80)
    simpa using this
  have hno1 : ∀ k, o1 k → k < w.heap.size := h.drv.under
  have hno2 : ∀ k, o2 k → k < w.heap.size := h.ref.under
  have HH := hid (h.below hba)
  have HBA := hid hba
  have HS := hid hS
  have HN := hid hn
  have np1 : ¬ o1 w.heap.size := fun e => by have := hno1 _ e; omega
  have np2 : ¬ o2 w.heap.size := fun e => by have := hno2 _ e; omega
  have nq1 : ¬ o1 (w.heap.size + 1) := fun e => by have := hno1 _ e; omega
  have nq2 : ¬ o2 (w.heap.size + 1) := fun e => by have := hno2 _ e; omega
  have hlp : w.heap.size < ((w.alloc (.cells #[.pointer (some ⟨a, 0, none⟩), .pointer (some ⟨b, 0, none⟩)] 54)).alloc (.cells (oprCells x).toArray 80)).heap.size := by simp; omega
  have hlq : w.heap.size + 1 < ((w.alloc (.cells #[.pointer (some ⟨a, 0, none⟩), .pointer (some ⟨b, 0, none⟩)] 54)).alloc (.cells (oprCells x).toArray 80)).heap.size := by simp
  clear h hS hn hk hstep hba hno1 hno2
  go_enter Try.func35, Try.ntmps35
  go_upto_region 1 with fail
  generalize (w.alloc (.cells #[.pointer (some ⟨a, 0, none⟩), .pointer (some ⟨b, 0, none⟩)] 54)).alloc (.cells (oprCells x).toArray 80) = w1 at HH HBA hp0 hq0 hlp hlq ⊢
  have p0 := cell_block hp0 0
  have p1 := cell_block hp0 1
  have q0 := cell_block hq0 0
  have q1 := cell_block hq0 1
  have q2 := cell_block hq0 2
  have q3 := cell_block hq0 3
  have q4 := cell_block hq0 4
  have q5 := cell_block hq0 5
  have q6 := cell_block hq0 6
  have q7 := cell_block hq0 7
  have q8 := cell_block hq0 8
  simp only [List.getElem?_toArray, List.getElem?_cons_zero, List.getElem?_cons_succ] at p0 p1 q0 q1 q2 q3 q4 q5 q6 q7 q8
  clear hp0 hq0
  generalize hqp : w.heap.size = qp at np1 np2 nq1 nq2 hlp hlq p0 p1 q0 q1 q2 q3 q4 q5 q6 q7 q8 ⊢
  have HQP := hid hqp
  clear hqp
  go_upto_region 3 with fail
  have HD0 := hid (HH.out.drv.below (w' := w1.drew) ((Below.refl _ _).drew))
  have HR0 := hid (HH.out.ref.below (w' := w1.drew) ((Below.refl _ _).drew))
  go_region_held3 (fun w' => w'.cell? ⟨qp, 0, none⟩ = some (.pointer (some ⟨a, 0, none⟩)) ∧ w'.cell? ⟨qp, 1, none⟩ = some (.pointer (some ⟨b, 0, none⟩)) ∧ w'.cell? ⟨qp + 1, 1, none⟩ = some (.int .i64 x.term) ∧ w'.cell? ⟨qp + 1, 2, none⟩ = some (.int .i64 x.slot) ∧ w'.cell? ⟨qp + 1, 3, none⟩ = some (.string x.data))
    (first | exact ⟨p0, p1, q1, q2, q3⟩ | exact ⟨(FD.cell_far ⟨qp, 0, none⟩ hlp np1).trans p0, (FD.cell_far ⟨qp, 1, none⟩ hlp np1).trans p1, (FD.cell_far ⟨qp + 1, 1, none⟩ hlq nq1).trans q1, (FD.cell_far ⟨qp + 1, 2, none⟩ hlq nq1).trans q2, (FD.cell_far ⟨qp + 1, 3, none⟩ hlq nq1).trans q3⟩ | exact ⟨(FR.cell_far ⟨qp, 0, none⟩ hlp np2).trans p0, (FR.cell_far ⟨qp, 1, none⟩ hlp np2).trans p1, (FR.cell_far ⟨qp + 1, 1, none⟩ hlq nq2).trans q1, (FR.cell_far ⟨qp + 1, 2, none⟩ hlq nq2).trans q2, (FR.cell_far ⟨qp + 1, 3, none⟩ hlq nq2).trans q3⟩ | exact ⟨(FR.cell_far ⟨qp, 0, none⟩ (Nat.lt_of_lt_of_le hlp FD.size) np2).trans ((FD.cell_far ⟨qp, 0, none⟩ hlp np1).trans p0), (FR.cell_far ⟨qp, 1, none⟩ (Nat.lt_of_lt_of_le hlp FD.size) np2).trans ((FD.cell_far ⟨qp, 1, none⟩ hlp np1).trans p1), (FR.cell_far ⟨qp + 1, 1, none⟩ (Nat.lt_of_lt_of_le hlq FD.size) nq2).trans ((FD.cell_far ⟨qp + 1, 1, none⟩ hlq nq1).trans q1), (FR.cell_far ⟨qp + 1, 2, none⟩ (Nat.lt_of_lt_of_le hlq FD.size) nq2).trans ((FD.cell_far ⟨qp + 1, 2, none⟩ hlq nq1).trans q2), (FR.cell_far ⟨qp + 1, 3, none⟩ (Nat.lt_of_lt_of_le hlq FD.size) nq2).trans ((FD.cell_far ⟨qp + 1, 3, none⟩ hlq nq1).trans q3)⟩ | exact ⟨(FD.cell_far ⟨qp, 0, none⟩ (Nat.lt_of_lt_of_le hlp FR.size) np1).trans ((FR.cell_far ⟨qp, 0, none⟩ hlp np2).trans p0), (FD.cell_far ⟨qp, 1, none⟩ (Nat.lt_of_lt_of_le hlp FR.size) np1).trans ((FR.cell_far ⟨qp, 1, none⟩ hlp np2).trans p1), (FD.cell_far ⟨qp + 1, 1, none⟩ (Nat.lt_of_lt_of_le hlq FR.size) nq1).trans ((FR.cell_far ⟨qp + 1, 1, none⟩ hlq nq2).trans q1), (FD.cell_far ⟨qp + 1, 2, none⟩ (Nat.lt_of_lt_of_le hlq FR.size) nq1).trans ((FR.cell_far ⟨qp + 1, 2, none⟩ hlq nq2).trans q2), (FD.cell_far ⟨qp + 1, 3, none⟩ (Nat.lt_of_lt_of_le hlq FR.size) nq1).trans ((FR.cell_far ⟨qp + 1, 3, none⟩ hlq nq2).trans q3)⟩)
    ((first
      | (go_at_call 15; refine (write_e (show Drv _ o1 a S by first | exact HD0.out | exact HD1.out) HS.out x.term x.slot x.data).mono ?_; rintro e wd ⟨rfl, hd1, FD⟩; have hd1 := hd1.growTo FD (Drv.under (show Drv _ o1 a S by first | exact HD0.out | exact HD1.out)); have HDP := hid hd1; try (have HR1 := hid (HR0.out.fr FD HH.out.apart.symm)))
      | (go_at_call 54; refine (ref_write (show Ref _ o2 b S by first | exact HR0.out | exact HR1.out) HS.out (by have := HN.out; omega) x.term x.slot x.data).mono ?_; rintro e wr ⟨rfl, hr1, FR⟩;  have HRP := hid hr1; try (have HD1 := hid (HD0.out.fr FR HH.out.apart)))))
  all_goals
    have HB := hid (HH.out.below (w' := w1.drew) ((Below.refl _ _).drew))
    have HBB := hid HBA.out.drew
    clear HD0 HR0
    go_wp2
    go_ret
    exact ⟨by simp, by first | exact (Both.two HB.out HDP.out FD HRP.out FR).before HBB.out | exact (Both.two' HB.out HRP.out FR HDP.out FD).before HBB.out⟩
set_option maxRecDepth 100000 in
set_option maxHeartbeats 4000000 in
theorem do_erase (h : Both w o1 o2 a b S) (hS : S.Ok) (hn : S.pend.length ≤ 900000) (x : Opr) (hk : x.kind = 3) :
    Calls Try.prog 35 #[.agg #[.pointer (some ⟨a, 0, none⟩), .pointer (some ⟨b, 0, none⟩)], x.val] w fun e w' => e = .returned (.bool true) ∧ Moved w o1 o2 a b (S.step x) w' := by
  have hstep : S.step x = (S.write x.term x.slot blank).2 := by unfold Dv.step; simp [hk]
  rw [hstep]
  have e1 : (x.kind == 1) = false := by rw [beq_eq_false_iff_ne]; omega
  have e2 : (x.kind == 2) = false := by rw [beq_eq_false_iff_ne]; omega
  have e3 := (beq_iff_eq (a := x.kind) (b := 3)).2 hk
  have e4 : (x.kind == 4) = false := by rw [beq_eq_false_iff_ne]; omega
  have e5 : (x.kind == 5) = false := by rw [beq_eq_false_iff_ne]; omega
  have hba : Below w.heap.size w ((w.alloc (.cells #[.pointer (some ⟨a, 0, none⟩), .pointer (some ⟨b, 0, none⟩)] 54)).alloc (.cells (oprCells x).toArray 80)) := ((Below.refl _ _).alloc (Nat.le_refl _) _).alloc (by simp) _
  have hp0 : ((w.alloc (.cells #[.pointer (some ⟨a, 0, none⟩), .pointer (some ⟨b, 0, none⟩)] 54)).alloc (.cells (oprCells x).toArray 80)).heap[w.heap.size]? = some (.cells #[.pointer (some ⟨a, 0, none⟩), .pointer (some ⟨b, 0, none⟩)] 54 (0, 0)) := (Below.heap_alloc _ _ _ (by simp)).trans (heap_alloc_new w _)
  have hq0 : ((w.alloc (.cells #[.pointer (some ⟨a, 0, none⟩), .pointer (some ⟨b, 0, none⟩)] 54)).alloc (.cells (oprCells x).toArray 80)).heap[w.heap.size + 1]? = some (.cells (oprCells x).toArray 80 (0, 0)) := by
    have := heap_alloc_new (w.alloc (.cells #[.pointer (some ⟨a, 0, none⟩), .pointer (some ⟨b, 0, none⟩)] 54)) (.cells (oprCells x).toArray 80)
    simpa using this
  have hno1 : ∀ k, o1 k → k < w.heap.size := h.drv.under
  have hno2 : ∀ k, o2 k → k < w.heap.size := h.ref.under
  have HH := hid (h.below hba)
  have HBA := hid hba
  have HS := hid hS
  have HN := hid hn
  have np1 : ¬ o1 w.heap.size := fun e => by have := hno1 _ e; omega
  have np2 : ¬ o2 w.heap.size := fun e => by have := hno2 _ e; omega
  have nq1 : ¬ o1 (w.heap.size + 1) := fun e => by have := hno1 _ e; omega
  have nq2 : ¬ o2 (w.heap.size + 1) := fun e => by have := hno2 _ e; omega
  have hlp : w.heap.size < ((w.alloc (.cells #[.pointer (some ⟨a, 0, none⟩), .pointer (some ⟨b, 0, none⟩)] 54)).alloc (.cells (oprCells x).toArray 80)).heap.size := by simp; omega
  have hlq : w.heap.size + 1 < ((w.alloc (.cells #[.pointer (some ⟨a, 0, none⟩), .pointer (some ⟨b, 0, none⟩)] 54)).alloc (.cells (oprCells x).toArray 80)).heap.size := by simp
  clear h hS hn hk hstep hba hno1 hno2
  go_enter Try.func35, Try.ntmps35
  go_upto_region 1 with fail
  generalize (w.alloc (.cells #[.pointer (some ⟨a, 0, none⟩), .pointer (some ⟨b, 0, none⟩)] 54)).alloc (.cells (oprCells x).toArray 80) = w1 at HH HBA hp0 hq0 hlp hlq ⊢
  have p0 := cell_block hp0 0
  have p1 := cell_block hp0 1
  have q0 := cell_block hq0 0
  have q1 := cell_block hq0 1
  have q2 := cell_block hq0 2
  have q3 := cell_block hq0 3
  have q4 := cell_block hq0 4
  have q5 := cell_block hq0 5
  have q6 := cell_block hq0 6
  have q7 := cell_block hq0 7
  have q8 := cell_block hq0 8
  simp only [List.getElem?_toArray, List.getElem?_cons_zero, List.getElem?_cons_succ] at p0 p1 q0 q1 q2 q3 q4 q5 q6 q7 q8
  clear hp0 hq0
  generalize hqp : w.heap.size = qp at np1 np2 nq1 nq2 hlp hlq p0 p1 q0 q1 q2 q3 q4 q5 q6 q7 q8 ⊢
  have HQP := hid hqp
  clear hqp
  go_upto_region 9 with fail
  have HD0 := hid (HH.out.drv.below (w' := w1.drew) ((Below.refl _ _).drew))
  have HR0 := hid (HH.out.ref.below (w' := w1.drew) ((Below.refl _ _).drew))
  go_region_held3 (fun w' => w'.cell? ⟨qp, 0, none⟩ = some (.pointer (some ⟨a, 0, none⟩)) ∧ w'.cell? ⟨qp, 1, none⟩ = some (.pointer (some ⟨b, 0, none⟩)) ∧ w'.cell? ⟨qp + 1, 1, none⟩ = some (.int .i64 x.term) ∧ w'.cell? ⟨qp + 1, 2, none⟩ = some (.int .i64 x.slot))
    (first | exact ⟨p0, p1, q1, q2⟩ | exact ⟨(FD.cell_far ⟨qp, 0, none⟩ hlp np1).trans p0, (FD.cell_far ⟨qp, 1, none⟩ hlp np1).trans p1, (FD.cell_far ⟨qp + 1, 1, none⟩ hlq nq1).trans q1, (FD.cell_far ⟨qp + 1, 2, none⟩ hlq nq1).trans q2⟩ | exact ⟨(FR.cell_far ⟨qp, 0, none⟩ hlp np2).trans p0, (FR.cell_far ⟨qp, 1, none⟩ hlp np2).trans p1, (FR.cell_far ⟨qp + 1, 1, none⟩ hlq nq2).trans q1, (FR.cell_far ⟨qp + 1, 2, none⟩ hlq nq2).trans q2⟩ | exact ⟨(FR.cell_far ⟨qp, 0, none⟩ (Nat.lt_of_lt_of_le hlp FD.size) np2).trans ((FD.cell_far ⟨qp, 0, none⟩ hlp np1).trans p0), (FR.cell_far ⟨qp, 1, none⟩ (Nat.lt_of_lt_of_le hlp FD.size) np2).trans ((FD.cell_far ⟨qp, 1, none⟩ hlp np1).trans p1), (FR.cell_far ⟨qp + 1, 1, none⟩ (Nat.lt_of_lt_of_le hlq FD.size) nq2).trans ((FD.cell_far ⟨qp + 1, 1, none⟩ hlq nq1).trans q1), (FR.cell_far ⟨qp + 1, 2, none⟩ (Nat.lt_of_lt_of_le hlq FD.size) nq2).trans ((FD.cell_far ⟨qp + 1, 2, none⟩ hlq nq1).trans q2)⟩ | exact ⟨(FD.cell_far ⟨qp, 0, none⟩ (Nat.lt_of_lt_of_le hlp FR.size) np1).trans ((FR.cell_far ⟨qp, 0, none⟩ hlp np2).trans p0), (FD.cell_far ⟨qp, 1, none⟩ (Nat.lt_of_lt_of_le hlp FR.size) np1).trans ((FR.cell_far ⟨qp, 1, none⟩ hlp np2).trans p1), (FD.cell_far ⟨qp + 1, 1, none⟩ (Nat.lt_of_lt_of_le hlq FR.size) nq1).trans ((FR.cell_far ⟨qp + 1, 1, none⟩ hlq nq2).trans q1), (FD.cell_far ⟨qp + 1, 2, none⟩ (Nat.lt_of_lt_of_le hlq FR.size) nq1).trans ((FR.cell_far ⟨qp + 1, 2, none⟩ hlq nq2).trans q2)⟩)
    ((first
      | (go_at_call 53; refine (erase_e (show Drv _ o1 a S by first | exact HD0.out | exact HD1.out) HS.out x.term x.slot).mono ?_; rintro e wd ⟨rfl, hd1, FD⟩; have hd1 := hd1.growTo FD (Drv.under (show Drv _ o1 a S by first | exact HD0.out | exact HD1.out)); have HDP := hid hd1; try (have HR1 := hid (HR0.out.fr FD HH.out.apart.symm)))
      | (go_at_call 57; refine (ref_erase (show Ref _ o2 b S by first | exact HR0.out | exact HR1.out) HS.out (by have := HN.out; omega) x.term x.slot).mono ?_; rintro e wr ⟨rfl, hr1, FR⟩;  have HRP := hid hr1; try (have HD1 := hid (HD0.out.fr FR HH.out.apart)))))
  all_goals
    have HB := hid (HH.out.below (w' := w1.drew) ((Below.refl _ _).drew))
    have HBB := hid HBA.out.drew
    clear HD0 HR0
    go_wp2
    go_ret
    exact ⟨by simp, by first | exact (Both.two HB.out HDP.out FD HRP.out FR).before HBB.out | exact (Both.two' HB.out HRP.out FR HDP.out FD).before HBB.out⟩
set_option maxRecDepth 100000 in
set_option maxHeartbeats 4000000 in
theorem do_fence (h : Both w o1 o2 a b S) (hS : S.Ok) (hn : S.pend.length ≤ 900000) (x : Opr) (hk : x.kind = 4) :
    Calls Try.prog 35 #[.agg #[.pointer (some ⟨a, 0, none⟩), .pointer (some ⟨b, 0, none⟩)], x.val] w fun e w' => e = .returned (.bool true) ∧ Moved w o1 o2 a b (S.step x) w' := by
  have hstep : S.step x = (S.fence x.term).2 := by unfold Dv.step; simp [hk]
  rw [hstep]
  have e1 : (x.kind == 1) = false := by rw [beq_eq_false_iff_ne]; omega
  have e2 : (x.kind == 2) = false := by rw [beq_eq_false_iff_ne]; omega
  have e3 : (x.kind == 3) = false := by rw [beq_eq_false_iff_ne]; omega
  have e4 := (beq_iff_eq (a := x.kind) (b := 4)).2 hk
  have e5 : (x.kind == 5) = false := by rw [beq_eq_false_iff_ne]; omega
  have hba : Below w.heap.size w ((w.alloc (.cells #[.pointer (some ⟨a, 0, none⟩), .pointer (some ⟨b, 0, none⟩)] 54)).alloc (.cells (oprCells x).toArray 80)) := ((Below.refl _ _).alloc (Nat.le_refl _) _).alloc (by simp) _
  have hp0 : ((w.alloc (.cells #[.pointer (some ⟨a, 0, none⟩), .pointer (some ⟨b, 0, none⟩)] 54)).alloc (.cells (oprCells x).toArray 80)).heap[w.heap.size]? = some (.cells #[.pointer (some ⟨a, 0, none⟩), .pointer (some ⟨b, 0, none⟩)] 54 (0, 0)) := (Below.heap_alloc _ _ _ (by simp)).trans (heap_alloc_new w _)
  have hq0 : ((w.alloc (.cells #[.pointer (some ⟨a, 0, none⟩), .pointer (some ⟨b, 0, none⟩)] 54)).alloc (.cells (oprCells x).toArray 80)).heap[w.heap.size + 1]? = some (.cells (oprCells x).toArray 80 (0, 0)) := by
    have := heap_alloc_new (w.alloc (.cells #[.pointer (some ⟨a, 0, none⟩), .pointer (some ⟨b, 0, none⟩)] 54)) (.cells (oprCells x).toArray 80)
    simpa using this
  have hno1 : ∀ k, o1 k → k < w.heap.size := h.drv.under
  have hno2 : ∀ k, o2 k → k < w.heap.size := h.ref.under
  have HH := hid (h.below hba)
  have HBA := hid hba
  have HS := hid hS
  have HN := hid hn
  have np1 : ¬ o1 w.heap.size := fun e => by have := hno1 _ e; omega
  have np2 : ¬ o2 w.heap.size := fun e => by have := hno2 _ e; omega
  have nq1 : ¬ o1 (w.heap.size + 1) := fun e => by have := hno1 _ e; omega
  have nq2 : ¬ o2 (w.heap.size + 1) := fun e => by have := hno2 _ e; omega
  have hlp : w.heap.size < ((w.alloc (.cells #[.pointer (some ⟨a, 0, none⟩), .pointer (some ⟨b, 0, none⟩)] 54)).alloc (.cells (oprCells x).toArray 80)).heap.size := by simp; omega
  have hlq : w.heap.size + 1 < ((w.alloc (.cells #[.pointer (some ⟨a, 0, none⟩), .pointer (some ⟨b, 0, none⟩)] 54)).alloc (.cells (oprCells x).toArray 80)).heap.size := by simp
  clear h hS hn hk hstep hba hno1 hno2
  go_enter Try.func35, Try.ntmps35
  go_upto_region 1 with fail
  generalize (w.alloc (.cells #[.pointer (some ⟨a, 0, none⟩), .pointer (some ⟨b, 0, none⟩)] 54)).alloc (.cells (oprCells x).toArray 80) = w1 at HH HBA hp0 hq0 hlp hlq ⊢
  have p0 := cell_block hp0 0
  have p1 := cell_block hp0 1
  have q0 := cell_block hq0 0
  have q1 := cell_block hq0 1
  have q2 := cell_block hq0 2
  have q3 := cell_block hq0 3
  have q4 := cell_block hq0 4
  have q5 := cell_block hq0 5
  have q6 := cell_block hq0 6
  have q7 := cell_block hq0 7
  have q8 := cell_block hq0 8
  simp only [List.getElem?_toArray, List.getElem?_cons_zero, List.getElem?_cons_succ] at p0 p1 q0 q1 q2 q3 q4 q5 q6 q7 q8
  clear hp0 hq0
  generalize hqp : w.heap.size = qp at np1 np2 nq1 nq2 hlp hlq p0 p1 q0 q1 q2 q3 q4 q5 q6 q7 q8 ⊢
  have HQP := hid hqp
  clear hqp
  go_upto_region 11 with fail
  have HD0 := hid (HH.out.drv.below (w' := w1.drew) ((Below.refl _ _).drew))
  have HR0 := hid (HH.out.ref.below (w' := w1.drew) ((Below.refl _ _).drew))
  go_region_held3 (fun w' => w'.cell? ⟨qp, 0, none⟩ = some (.pointer (some ⟨a, 0, none⟩)) ∧ w'.cell? ⟨qp, 1, none⟩ = some (.pointer (some ⟨b, 0, none⟩)) ∧ w'.cell? ⟨qp + 1, 1, none⟩ = some (.int .i64 x.term))
    (first | exact ⟨p0, p1, q1⟩ | exact ⟨(FD.cell_far ⟨qp, 0, none⟩ hlp np1).trans p0, (FD.cell_far ⟨qp, 1, none⟩ hlp np1).trans p1, (FD.cell_far ⟨qp + 1, 1, none⟩ hlq nq1).trans q1⟩ | exact ⟨(FR.cell_far ⟨qp, 0, none⟩ hlp np2).trans p0, (FR.cell_far ⟨qp, 1, none⟩ hlp np2).trans p1, (FR.cell_far ⟨qp + 1, 1, none⟩ hlq nq2).trans q1⟩ | exact ⟨(FR.cell_far ⟨qp, 0, none⟩ (Nat.lt_of_lt_of_le hlp FD.size) np2).trans ((FD.cell_far ⟨qp, 0, none⟩ hlp np1).trans p0), (FR.cell_far ⟨qp, 1, none⟩ (Nat.lt_of_lt_of_le hlp FD.size) np2).trans ((FD.cell_far ⟨qp, 1, none⟩ hlp np1).trans p1), (FR.cell_far ⟨qp + 1, 1, none⟩ (Nat.lt_of_lt_of_le hlq FD.size) nq2).trans ((FD.cell_far ⟨qp + 1, 1, none⟩ hlq nq1).trans q1)⟩ | exact ⟨(FD.cell_far ⟨qp, 0, none⟩ (Nat.lt_of_lt_of_le hlp FR.size) np1).trans ((FR.cell_far ⟨qp, 0, none⟩ hlp np2).trans p0), (FD.cell_far ⟨qp, 1, none⟩ (Nat.lt_of_lt_of_le hlp FR.size) np1).trans ((FR.cell_far ⟨qp, 1, none⟩ hlp np2).trans p1), (FD.cell_far ⟨qp + 1, 1, none⟩ (Nat.lt_of_lt_of_le hlq FR.size) nq1).trans ((FR.cell_far ⟨qp + 1, 1, none⟩ hlq nq2).trans q1)⟩)
    ((first
      | (go_at_call 61; refine (fence_e (show Drv _ o1 a S by first | exact HD0.out | exact HD1.out) HS.out x.term).mono ?_; rintro e wd ⟨rfl, hd1, FD⟩; have hd1 := hd1.growTo FD (Drv.under (show Drv _ o1 a S by first | exact HD0.out | exact HD1.out)); have HDP := hid hd1; try (have HR1 := hid (HR0.out.fr FD HH.out.apart.symm)))
      | (go_at_call 62; refine (ref_fence_e (show Ref _ o2 b S by first | exact HR0.out | exact HR1.out) x.term).mono ?_; rintro e wr ⟨rfl, hr1, FR⟩; have hr1 := hr1.grow FR (Ref.under (show Ref _ o2 b S by first | exact HR0.out | exact HR1.out)); have HRP := hid hr1; try (have HD1 := hid (HD0.out.fr FR HH.out.apart)))))
  all_goals
    have HB := hid (HH.out.below (w' := w1.drew) ((Below.refl _ _).drew))
    have HBB := hid HBA.out.drew
    clear HD0 HR0
    go_wp2
    go_ret
    exact ⟨by simp, by first | exact (Both.two HB.out HDP.out FD HRP.out FR).before HBB.out | exact (Both.two' HB.out HRP.out FR HDP.out FD).before HBB.out⟩
set_option maxRecDepth 100000 in
set_option maxHeartbeats 4000000 in
theorem do_inject (h : Both w o1 o2 a b S) (hS : S.Ok) (hn : S.pend.length ≤ 900000) (x : Opr) (hk : x.kind = 5) :
    Calls Try.prog 35 #[.agg #[.pointer (some ⟨a, 0, none⟩), .pointer (some ⟨b, 0, none⟩)], x.val] w fun e w' => e = .returned (.bool true) ∧ Moved w o1 o2 a b (S.step x) w' := by
  have hstep : S.step x = (S.inject x.fault).2 := by unfold Dv.step; simp [hk]
  rw [hstep]
  have e1 : (x.kind == 1) = false := by rw [beq_eq_false_iff_ne]; omega
  have e2 : (x.kind == 2) = false := by rw [beq_eq_false_iff_ne]; omega
  have e3 : (x.kind == 3) = false := by rw [beq_eq_false_iff_ne]; omega
  have e4 : (x.kind == 4) = false := by rw [beq_eq_false_iff_ne]; omega
  have e5 := (beq_iff_eq (a := x.kind) (b := 5)).2 hk
  have hba : Below w.heap.size w ((w.alloc (.cells #[.pointer (some ⟨a, 0, none⟩), .pointer (some ⟨b, 0, none⟩)] 54)).alloc (.cells (oprCells x).toArray 80)) := ((Below.refl _ _).alloc (Nat.le_refl _) _).alloc (by simp) _
  have hp0 : ((w.alloc (.cells #[.pointer (some ⟨a, 0, none⟩), .pointer (some ⟨b, 0, none⟩)] 54)).alloc (.cells (oprCells x).toArray 80)).heap[w.heap.size]? = some (.cells #[.pointer (some ⟨a, 0, none⟩), .pointer (some ⟨b, 0, none⟩)] 54 (0, 0)) := (Below.heap_alloc _ _ _ (by simp)).trans (heap_alloc_new w _)
  have hq0 : ((w.alloc (.cells #[.pointer (some ⟨a, 0, none⟩), .pointer (some ⟨b, 0, none⟩)] 54)).alloc (.cells (oprCells x).toArray 80)).heap[w.heap.size + 1]? = some (.cells (oprCells x).toArray 80 (0, 0)) := by
    have := heap_alloc_new (w.alloc (.cells #[.pointer (some ⟨a, 0, none⟩), .pointer (some ⟨b, 0, none⟩)] 54)) (.cells (oprCells x).toArray 80)
    simpa using this
  have hno1 : ∀ k, o1 k → k < w.heap.size := h.drv.under
  have hno2 : ∀ k, o2 k → k < w.heap.size := h.ref.under
  have HH := hid (h.below hba)
  have HBA := hid hba
  have HS := hid hS
  have HN := hid hn
  have np1 : ¬ o1 w.heap.size := fun e => by have := hno1 _ e; omega
  have np2 : ¬ o2 w.heap.size := fun e => by have := hno2 _ e; omega
  have nq1 : ¬ o1 (w.heap.size + 1) := fun e => by have := hno1 _ e; omega
  have nq2 : ¬ o2 (w.heap.size + 1) := fun e => by have := hno2 _ e; omega
  have hlp : w.heap.size < ((w.alloc (.cells #[.pointer (some ⟨a, 0, none⟩), .pointer (some ⟨b, 0, none⟩)] 54)).alloc (.cells (oprCells x).toArray 80)).heap.size := by simp; omega
  have hlq : w.heap.size + 1 < ((w.alloc (.cells #[.pointer (some ⟨a, 0, none⟩), .pointer (some ⟨b, 0, none⟩)] 54)).alloc (.cells (oprCells x).toArray 80)).heap.size := by simp
  clear h hS hn hk hstep hba hno1 hno2
  go_enter Try.func35, Try.ntmps35
  go_upto_region 1 with fail
  generalize (w.alloc (.cells #[.pointer (some ⟨a, 0, none⟩), .pointer (some ⟨b, 0, none⟩)] 54)).alloc (.cells (oprCells x).toArray 80) = w1 at HH HBA hp0 hq0 hlp hlq ⊢
  have p0 := cell_block hp0 0
  have p1 := cell_block hp0 1
  have q0 := cell_block hq0 0
  have q1 := cell_block hq0 1
  have q2 := cell_block hq0 2
  have q3 := cell_block hq0 3
  have q4 := cell_block hq0 4
  have q5 := cell_block hq0 5
  have q6 := cell_block hq0 6
  have q7 := cell_block hq0 7
  have q8 := cell_block hq0 8
  simp only [List.getElem?_toArray, List.getElem?_cons_zero, List.getElem?_cons_succ] at p0 p1 q0 q1 q2 q3 q4 q5 q6 q7 q8
  clear hp0 hq0
  generalize hqp : w.heap.size = qp at np1 np2 nq1 nq2 hlp hlq p0 p1 q0 q1 q2 q3 q4 q5 q6 q7 q8 ⊢
  have HQP := hid hqp
  clear hqp
  go_upto_region 13 with fail
  have HD0 := hid (HH.out.drv.below (w' := w1.drew) ((Below.refl _ _).drew))
  have HR0 := hid (HH.out.ref.below (w' := w1.drew) ((Below.refl _ _).drew))
  go_region_held3 (fun w' => w'.cell? ⟨qp, 0, none⟩ = some (.pointer (some ⟨a, 0, none⟩)) ∧ w'.cell? ⟨qp, 1, none⟩ = some (.pointer (some ⟨b, 0, none⟩)) ∧ w'.cell? ⟨qp + 1, 4, none⟩ = some (.int .i64 x.fault.kind) ∧ w'.cell? ⟨qp + 1, 5, none⟩ = some (.int .i64 x.fault.slot) ∧ w'.cell? ⟨qp + 1, 6, none⟩ = some (.int .i64 x.fault.bit) ∧ w'.cell? ⟨qp + 1, 7, none⟩ = some (.int .i64 x.fault.mask) ∧ w'.cell? ⟨qp + 1, 8, none⟩ = some (.int .i64 x.fault.dest))
    (first | exact ⟨p0, p1, q4, q5, q6, q7, q8⟩ | exact ⟨(FD.cell_far ⟨qp, 0, none⟩ hlp np1).trans p0, (FD.cell_far ⟨qp, 1, none⟩ hlp np1).trans p1, (FD.cell_far ⟨qp + 1, 4, none⟩ hlq nq1).trans q4, (FD.cell_far ⟨qp + 1, 5, none⟩ hlq nq1).trans q5, (FD.cell_far ⟨qp + 1, 6, none⟩ hlq nq1).trans q6, (FD.cell_far ⟨qp + 1, 7, none⟩ hlq nq1).trans q7, (FD.cell_far ⟨qp + 1, 8, none⟩ hlq nq1).trans q8⟩ | exact ⟨(FR.cell_far ⟨qp, 0, none⟩ hlp np2).trans p0, (FR.cell_far ⟨qp, 1, none⟩ hlp np2).trans p1, (FR.cell_far ⟨qp + 1, 4, none⟩ hlq nq2).trans q4, (FR.cell_far ⟨qp + 1, 5, none⟩ hlq nq2).trans q5, (FR.cell_far ⟨qp + 1, 6, none⟩ hlq nq2).trans q6, (FR.cell_far ⟨qp + 1, 7, none⟩ hlq nq2).trans q7, (FR.cell_far ⟨qp + 1, 8, none⟩ hlq nq2).trans q8⟩ | exact ⟨(FR.cell_far ⟨qp, 0, none⟩ (Nat.lt_of_lt_of_le hlp FD.size) np2).trans ((FD.cell_far ⟨qp, 0, none⟩ hlp np1).trans p0), (FR.cell_far ⟨qp, 1, none⟩ (Nat.lt_of_lt_of_le hlp FD.size) np2).trans ((FD.cell_far ⟨qp, 1, none⟩ hlp np1).trans p1), (FR.cell_far ⟨qp + 1, 4, none⟩ (Nat.lt_of_lt_of_le hlq FD.size) nq2).trans ((FD.cell_far ⟨qp + 1, 4, none⟩ hlq nq1).trans q4), (FR.cell_far ⟨qp + 1, 5, none⟩ (Nat.lt_of_lt_of_le hlq FD.size) nq2).trans ((FD.cell_far ⟨qp + 1, 5, none⟩ hlq nq1).trans q5), (FR.cell_far ⟨qp + 1, 6, none⟩ (Nat.lt_of_lt_of_le hlq FD.size) nq2).trans ((FD.cell_far ⟨qp + 1, 6, none⟩ hlq nq1).trans q6), (FR.cell_far ⟨qp + 1, 7, none⟩ (Nat.lt_of_lt_of_le hlq FD.size) nq2).trans ((FD.cell_far ⟨qp + 1, 7, none⟩ hlq nq1).trans q7), (FR.cell_far ⟨qp + 1, 8, none⟩ (Nat.lt_of_lt_of_le hlq FD.size) nq2).trans ((FD.cell_far ⟨qp + 1, 8, none⟩ hlq nq1).trans q8)⟩ | exact ⟨(FD.cell_far ⟨qp, 0, none⟩ (Nat.lt_of_lt_of_le hlp FR.size) np1).trans ((FR.cell_far ⟨qp, 0, none⟩ hlp np2).trans p0), (FD.cell_far ⟨qp, 1, none⟩ (Nat.lt_of_lt_of_le hlp FR.size) np1).trans ((FR.cell_far ⟨qp, 1, none⟩ hlp np2).trans p1), (FD.cell_far ⟨qp + 1, 4, none⟩ (Nat.lt_of_lt_of_le hlq FR.size) nq1).trans ((FR.cell_far ⟨qp + 1, 4, none⟩ hlq nq2).trans q4), (FD.cell_far ⟨qp + 1, 5, none⟩ (Nat.lt_of_lt_of_le hlq FR.size) nq1).trans ((FR.cell_far ⟨qp + 1, 5, none⟩ hlq nq2).trans q5), (FD.cell_far ⟨qp + 1, 6, none⟩ (Nat.lt_of_lt_of_le hlq FR.size) nq1).trans ((FR.cell_far ⟨qp + 1, 6, none⟩ hlq nq2).trans q6), (FD.cell_far ⟨qp + 1, 7, none⟩ (Nat.lt_of_lt_of_le hlq FR.size) nq1).trans ((FR.cell_far ⟨qp + 1, 7, none⟩ hlq nq2).trans q7), (FD.cell_far ⟨qp + 1, 8, none⟩ (Nat.lt_of_lt_of_le hlq FR.size) nq1).trans ((FR.cell_far ⟨qp + 1, 8, none⟩ hlq nq2).trans q8)⟩)
    ((first
      | (go_at_call 20; refine (inject_e (show Drv _ o1 a S by first | exact HD0.out | exact HD1.out) HS.out x.fault (by have := HN.out; omega)).mono ?_; rintro e wd ⟨rfl, hd1, FD⟩;  have HDP := hid hd1; try (have HR1 := hid (HR0.out.fr FD HH.out.apart.symm)))
      | (go_at_call 63; refine (ref_inject (show Ref _ o2 b S by first | exact HR0.out | exact HR1.out) HS.out x.fault (by have := HN.out; omega)).mono ?_; rintro e wr ⟨rfl, hr1, FR⟩;  have HRP := hid hr1; try (have HD1 := hid (HD0.out.fr FR HH.out.apart)))))
  all_goals
    have HB := hid (HH.out.below (w' := w1.drew) ((Below.refl _ _).drew))
    have HBB := hid HBA.out.drew
    clear HD0 HR0
    go_wp2
    go_ret
    exact ⟨by simp, by first | exact (Both.two HB.out HDP.out FD HRP.out FR).before HBB.out | exact (Both.two' HB.out HRP.out FR HDP.out FD).before HBB.out⟩
end
end Go.Proofs.Ytegekmdechcikaa
