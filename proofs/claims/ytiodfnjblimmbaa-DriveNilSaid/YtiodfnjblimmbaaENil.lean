/- DriveNil. -/
import Derived.Test.YtiodfnjblimmbaaEFences
namespace Go.Proofs.Ytiodfnjblimmbaa
open Go Go.RowKit Go.Sort Go.ChangeShapes Go.WideShapes Go.Deep

section
variable {H : Type} {enc : TypeId × Value → H} {w : World} {base : Nat} {spare : Nat → Bool} {held : Bool}
set_option maxRecDepth 100000 in
theorem open_op {r : Reach} {b0 : Nat} {v : Value} {d : DataW H} {ps : List MemPlace} (hv : Value.okWide Try.prog w r b0 60 v) (h : DataW.Trod enc Try.prog w base spare held 60 v d ps) : ∃ x : Opr, v = x.val := by
  obtain ⟨⟨cells⟩, rfl, hsize⟩ := okWide_struct Try.underlying60 hv
  obtain ⟨k, hk⟩ := h
  obtain ⟨x, rfl⟩ := op_one k cells _ hk
  exact ⟨x, rfl⟩
end
section
variable (w : World)
theorem nil_gone : Calls Try.prog 43 #[.pointer none] w fun e w' => e = .returned (.bool true) ∧ w = w' := by
  go_enter Try.func43, Try.ntmps43
  go_wp2
  go_ret
  exact ⟨rfl, rfl⟩
theorem nil_online : Calls Try.prog 38 #[.pointer none] w fun e w' => e = .returned (.bool false) ∧ w = w' := by
  go_enter Try.func38, Try.ntmps38
  go_wp2_with (go_at_call 43; refine (nil_gone _).mono ?_; rintro e w' ⟨rfl, rfl⟩)
  go_ret
  exact ⟨rfl, rfl⟩
theorem nil_claim : Calls Try.prog 34 #[.pointer none] w fun e w' => e = .returned (.int .i64 0) ∧ w = w' := by
  go_enter Try.func34, Try.ntmps34
  go_wp2
  go_ret
  exact ⟨rfl, rfl⟩
theorem nil_slot (s : Int) : Calls Try.prog 39 #[.pointer none, .int .i64 s] w fun e w' => e = .returned (.bool false) ∧ w = w' := by
  by_cases h0 : 0 ≤ s
  · have h1 : ¬ s < 0 := by omega
    go_enter Try.func39, Try.ntmps39
    go_wp2_with (go_at_call 34; refine (nil_claim _).mono ?_; rintro e w' ⟨rfl, rfl⟩)
    go_ret
    exact ⟨by simp [h0], rfl⟩
  · go_enter Try.func39, Try.ntmps39
    go_wp2_with (go_at_call 34; refine (nil_claim _).mono ?_; rintro e w' ⟨rfl, rfl⟩)
    go_ret
    exact ⟨rfl, rfl⟩
theorem nil_write (t s : Int) (d : ByteArray) : Calls Try.prog 18 #[.pointer none, .int .i64 t, .int .i64 s, .string d] w fun e w' => e = .returned (.int .i64 105) ∧ Below w.heap.size w w' := by
  go_enter Try.func18, Try.ntmps18
  go_wp2_with (go_at_call 38; refine (nil_online _).mono ?_; rintro e w' ⟨rfl, rfl⟩)
  go_ret
  exact ⟨rfl, Below.refl _ _⟩
theorem nil_read (s : Int) : Calls Try.prog 19 #[.pointer none, .int .i64 s] w fun e w' => e = .returned (.tuple #[.string ⟨#[]⟩, .int .i64 105]) ∧ w = w' := by
  go_enter Try.func19, Try.ntmps19
  go_wp2_with (go_at_call 38; refine (nil_online _).mono ?_; rintro e w' ⟨rfl, rfl⟩)
  go_ret2
  exact ⟨rfl, rfl⟩
theorem nil_fence (t : Int) : Calls Try.prog 23 #[.pointer none, .int .i64 t] w fun e w' => e = .returned (.int .i64 105) ∧ w = w' := by
  go_enter Try.func23, Try.ntmps23
  go_wp2_with (go_at_call 38; refine (nil_online _).mono ?_; rintro e w' ⟨rfl, rfl⟩)
  go_ret
  exact ⟨rfl, rfl⟩
theorem nil_erase (t s : Int) : Calls Try.prog 32 #[.pointer none, .int .i64 t, .int .i64 s] w fun e w' => e = .returned (.int .i64 105) ∧ Below w.heap.size w w' := by
  go_enter Try.func32, Try.ntmps32
  go_wp2_with fail
  refine (zero_any w).mono ?_
  rintro e w1 ⟨rfl, hb1⟩
  go_wp2_with fail
  refine (nil_write w1 t s blank).mono ?_
  rintro e w2 ⟨rfl, hb2⟩
  go_wp2
  go_ret
  exact ⟨rfl, hb1.trans (hb2.mono hb1.size)⟩
theorem nil_status : Calls Try.prog 25 #[.pointer none] w fun e w' => e = .returned (.agg #[.bool false, .bool true, .int .i64 0]) ∧ Below w.heap.size w w' := by
  go_enter Try.func25, Try.ntmps25
  go_upto_region 1 with fail
  have hb1 : Below w.heap.size w (w.alloc (.cells #[.bool false, .bool false, .int .i64 0] 45)) := (Below.refl _ _).alloc (Nat.le_refl _) _
  have hg1 : (w.alloc (.cells #[.bool false, .bool false, .int .i64 0] 45)).heap[w.heap.size]? = some (.cells #[.bool false, .bool false, .int .i64 0] 45 (0, 0)) := heap_alloc_new w _
  generalize w.alloc (.cells #[.bool false, .bool false, .int .i64 0] 45) = w1 at *
  go_wp2_with (refine wpList_store_row rfl 45 (.tmp 2) (.tmp 5) rfl w.heap.size #[.bool false, .bool true, .int .i64 0] rfl rfl 45 _ hg1 status_size rfl (status_one _ _ _) ?_)
  have hbb : Below w.heap.size w (w1.setRow w.heap.size #[.bool false, .bool true, .int .i64 0]) := below_setRow hb1 (Nat.le_refl _) _
  have hgg : (w1.setRow w.heap.size #[.bool false, .bool true, .int .i64 0]).heap[w.heap.size]? = some (.cells #[.bool false, .bool true, .int .i64 0] 45 (0, 0)) := setRow_heap w1 _ _ _ _ _ hg1
  generalize w1.setRow w.heap.size #[.bool false, .bool true, .int .i64 0] = w2 at hbb hgg ⊢
  go_wp2
  refine bodyPost_ret (results_cell_row Try.results25 _ _ w.heap.size _ _ _ _ rfl hgg Try.underlying45 rfl status_size) rfl ⟨rfl, hbb⟩
theorem nil_platters : Calls Try.prog 22 #[.pointer none] w fun e w' => e = .returned (.slice none 0 0) ∧ w = w' := by
  go_enter Try.func22, Try.ntmps22
  go_wp2_with (go_at_call 43; refine (nil_gone _).mono ?_; rintro e w' ⟨rfl, rfl⟩)
  go_ret
  exact ⟨rfl, rfl⟩
theorem nil_clone : Calls Try.prog 35 #[.pointer none] w fun e w' => e = .returned (.pointer none) ∧ w = w' := by
  go_enter Try.func35, Try.ntmps35
  go_wp2
  go_ret
  exact ⟨rfl, rfl⟩
theorem valid_zero (f : Flt) : Dv.valid 0 f = decide (f.kind = 1 ∨ f.kind = 2 ∨ f.kind = 3 ∨ f.kind = 5) := by
  unfold Dv.valid
  by_cases hk : f.kind = 1 ∨ f.kind = 2 ∨ f.kind = 3 ∨ f.kind = 5
  · rw [if_pos hk, decide_eq_true hk]
  · rw [if_neg hk, decide_eq_false hk]
    repeat' split
    all_goals first | rfl | (rw [decide_eq_false_iff_not]; omega)
set_option maxHeartbeats 1000000 in
theorem nil_allowed (f : Flt) : Calls Try.prog 44 #[.pointer none, f.val] w fun e w' => e = .returned (.bool (Dv.valid 0 f)) ∧ Below w.heap.size w w' := by
  have HB := hid ((Below.refl w.heap.size w).alloc (Nat.le_refl _) (.cells #[.int .i64 f.kind, .int .i64 f.slot, .int .i64 f.bit, .int .i64 f.mask, .int .i64 f.dest] 49))
  rw [valid_zero]
  by_cases hk : f.kind = 1 ∨ f.kind = 2 ∨ f.kind = 3 ∨ f.kind = 5
  · rw [decide_eq_true hk]
    rcases hk with hk | hk | hk | hk
    all_goals
      have hk' := (beq_iff_eq (a := f.kind)).2 hk
      clear hk
      go_enter Try.func44, Try.ntmps44
      go_wp2
      go_ret
      exact ⟨rfl, HB.out⟩
  · rw [decide_eq_false hk]
    have k1 : (f.kind == 1) = false := by rw [beq_eq_false_iff_ne]; omega
    have k2 : (f.kind == 2) = false := by rw [beq_eq_false_iff_ne]; omega
    have k3 : (f.kind == 3) = false := by rw [beq_eq_false_iff_ne]; omega
    have k5 : (f.kind == 5) = false := by rw [beq_eq_false_iff_ne]; omega
    clear hk
    by_cases h7 : f.kind = 7
    · have hk' := (beq_iff_eq (a := f.kind)).2 h7
      clear h7
      go_enter Try.func44, Try.ntmps44
      go_wp2_with (go_at_call 39; refine (nil_slot _ f.slot).mono ?_; rintro e w' ⟨rfl, rfl⟩)
      go_ret
      exact ⟨rfl, HB.out⟩
    · have k7 : (f.kind == 7) = false := by rw [beq_eq_false_iff_ne]; omega
      clear h7
      by_cases h4 : f.kind = 4
      · have hk' := (beq_iff_eq (a := f.kind)).2 h4
        clear h4
        go_enter Try.func44, Try.ntmps44
        go_wp2_with (go_at_call 39; refine (nil_slot _ f.slot).mono ?_; rintro e w' ⟨rfl, rfl⟩)
        go_ret
        exact ⟨rfl, HB.out⟩
      · have k4 : (f.kind == 4) = false := by rw [beq_eq_false_iff_ne]; omega
        clear h4
        by_cases h6 : f.kind = 6
        · have hk' := (beq_iff_eq (a := f.kind)).2 h6
          clear h6
          go_enter Try.func44, Try.ntmps44
          go_wp2_with (go_at_call 39; refine (nil_slot _ f.dest).mono ?_; rintro e w' ⟨rfl, rfl⟩)
          go_ret
          exact ⟨rfl, HB.out⟩
        · have k6 : (f.kind == 6) = false := by rw [beq_eq_false_iff_ne]; omega
          clear h6
          go_enter Try.func44, Try.ntmps44
          go_wp2
          go_ret
          exact ⟨rfl, HB.out⟩
def nilInj (f : Flt) : Int := if Dv.valid 0 f = true then 0 else 108
set_option maxHeartbeats 1000000 in
theorem nil_inject (f : Flt) : Calls Try.prog 26 #[.pointer none, f.val] w fun e w' => e = .returned (.int .i64 (nilInj f)) ∧ Below w.heap.size w w' := by
  have HB := hid ((Below.refl w.heap.size w).alloc (Nat.le_refl _) (.cells #[.int .i64 f.kind, .int .i64 f.slot, .int .i64 f.bit, .int .i64 f.mask, .int .i64 f.dest] 49))
  obtain ⟨n, hn⟩ : ∃ n, nilInj f = n := ⟨_, rfl⟩
  rw [hn]
  unfold nilInj at hn
  cases hv : Dv.valid 0 f
  · rw [hv, if_neg (by simp)] at hn
    subst hn
    have HV := hid hv
    clear hv
    go_enter Try.func26, Try.ntmps26
    go_wp2_with fail
    refine (nil_allowed _ f).mono ?_
    rintro e w1 ⟨rfl, hb1⟩
    rw [HV.out]
    have HF := hid (HB.out.trans (hb1.mono HB.out.size))
    clear hb1
    go_wp2
    go_ret
    exact ⟨rfl, HF.out⟩
  · rw [hv, if_pos rfl] at hn
    subst hn
    have HV := hid hv
    clear hv
    go_enter Try.func26, Try.ntmps26
    go_wp2_with fail
    refine (nil_allowed _ f).mono ?_
    rintro e w1 ⟨rfl, hb1⟩
    rw [HV.out]
    have HF := hid (HB.out.trans (hb1.mono HB.out.size))
    clear hb1
    go_wp2_with (go_at_call 43; refine (nil_gone _).mono ?_; rintro e w' ⟨rfl, rfl⟩)
    go_ret
    exact ⟨rfl, HF.out⟩
end
theorem OpBox.fault {w : World} {q : Nat} {x : Opr} (h : OpBox w q x) : w.cell? ⟨q, 4, none⟩ = some (.int .i64 x.fault.kind) ∧ w.cell? ⟨q, 5, none⟩ = some (.int .i64 x.fault.slot) ∧ w.cell? ⟨q, 6, none⟩ = some (.int .i64 x.fault.bit) ∧ w.cell? ⟨q, 7, none⟩ = some (.int .i64 x.fault.mask) ∧ w.cell? ⟨q, 8, none⟩ = some (.int .i64 x.fault.dest) := ⟨cell_block h 4, cell_block h 5, cell_block h 6, cell_block h 7, cell_block h 8⟩
set_option maxRecDepth 100000 in
set_option maxHeartbeats 4000000 in
theorem law_nil (x : Opr) (w : World) : Calls Try.prog 12 #[x.val] w fun e w' => e = .returned (.bool true) ∧ Below w.heap.size w w' := by
  have hb1 : Below w.heap.size w (w.alloc (.cells (oprCells x).toArray 60)) := (Below.refl _ _).alloc (Nat.le_refl _) _
  have HBX := hid (show OpBox (w.alloc (.cells (oprCells x).toArray 60)) w.heap.size x from heap_alloc_new w _)
  have HB := hid hb1
  have hni : nilInj x.fault = if Dv.valid 0 x.fault = true then 0 else 108 := rfl
  have HNI := hid hni
  clear hb1 hni
  go_enter Try.func12, Try.ntmps12
  go_upto_region 1 with fail
  generalize w.alloc (.cells (oprCells x).toArray 60) = w1 at *
  obtain ⟨z1, z2, z3⟩ := HBX.out.cells
  obtain ⟨z4, z5, z6, z7, z8⟩ := HBX.out.fault
  go_wp2_with fail
  refine (nil_read _ x.slot).mono ?_
  rintro e wx ⟨rfl, rfl⟩
  go_wp2_with fail
  refine (ref_valid x.fault 0 _).mono ?_
  rintro e w2 ⟨rfl, hb2⟩
  have HBX2 := hid (HBX.out.below hb2)
  have HB2 := hid (HB.out.trans (hb2.mono HB.out.size))
  clear hb2 HBX HB z1 z2 z3 z4 z5 z6 z7 z8
  obtain ⟨n, hn⟩ : ∃ n, nilInj x.fault = n := ⟨_, rfl⟩
  have HN := hid hn
  clear hn
  cases hv : Dv.valid 0 x.fault
  · have hn : n = 108 := by rw [← HN.out, HNI.out, hv, if_neg (by simp)]
    subst hn
    clear hv HNI
    go_wp2_with fail
    refine (awake26 _).mono ?_
    rintro e w3 ⟨rfl, hb3⟩
    have HBX3 := hid (HBX2.out.below hb3)
    have HB3 := hid (HB2.out.trans (hb3.mono HB2.out.size))
    clear hb3 HBX2 HB2
    obtain ⟨z1, z2, z3⟩ := HBX3.out.cells
    obtain ⟨z4, z5, z6, z7, z8⟩ := HBX3.out.fault
    go_wp2_with fail
    refine (nil_write _ x.term x.slot x.data).mono ?_
    rintro e w4 ⟨rfl, hb4⟩
    clear z1 z2 z3 z4 z5 z6 z7 z8
    have HBX4 := hid (HBX3.out.below hb4)
    have HB4 := hid (HB3.out.trans (hb4.mono HB3.out.size))
    clear hb4 HBX3 HB3
    obtain ⟨z1, z2, z3⟩ := HBX4.out.cells
    obtain ⟨z4, z5, z6, z7, z8⟩ := HBX4.out.fault
    go_wp2_with fail
    refine (nil_erase _ x.term x.slot).mono ?_
    rintro e w5 ⟨rfl, hb5⟩
    clear z1 z2 z3 z4 z5 z6 z7 z8
    have HBX5 := hid (HBX4.out.below hb5)
    have HB5 := hid (HB4.out.trans (hb5.mono HB4.out.size))
    clear hb5 HBX4 HB4
    obtain ⟨z1, z2, z3⟩ := HBX5.out.cells
    obtain ⟨z4, z5, z6, z7, z8⟩ := HBX5.out.fault
    go_wp2_with fail
    refine (nil_fence _ x.term).mono ?_
    rintro e wx ⟨rfl, rfl⟩
    clear z1 z2 z3 z4 z5 z6 z7 z8
    obtain ⟨z1, z2, z3⟩ := HBX5.out.cells
    obtain ⟨z4, z5, z6, z7, z8⟩ := HBX5.out.fault
    go_wp2_with fail
    refine (nil_inject _ x.fault).mono ?_
    rintro e w6 ⟨rfl, hb6⟩
    rw [HN.out]
    clear z1 z2 z3 z4 z5 z6 z7 z8
    have HBX6 := hid (HBX5.out.below hb6)
    have HB6 := hid (HB5.out.trans (hb6.mono HB5.out.size))
    clear hb6 HBX5 HB5
    obtain ⟨z1, z2, z3⟩ := HBX6.out.cells
    obtain ⟨z4, z5, z6, z7, z8⟩ := HBX6.out.fault
    go_wp2_with fail
    refine (nil_claim _).mono ?_
    rintro e wx ⟨rfl, rfl⟩
    clear z1 z2 z3 z4 z5 z6 z7 z8
    obtain ⟨z1, z2, z3⟩ := HBX6.out.cells
    obtain ⟨z4, z5, z6, z7, z8⟩ := HBX6.out.fault
    go_wp2_with fail
    refine (nil_platters _).mono ?_
    rintro e wx ⟨rfl, rfl⟩
    clear z1 z2 z3 z4 z5 z6 z7 z8
    obtain ⟨z1, z2, z3⟩ := HBX6.out.cells
    obtain ⟨z4, z5, z6, z7, z8⟩ := HBX6.out.fault
    go_wp2_with fail
    refine (nil_status _).mono ?_
    rintro e w7 ⟨rfl, hb7⟩
    clear z1 z2 z3 z4 z5 z6 z7 z8
    have HBX7 := hid (HBX6.out.below hb7)
    have HB7 := hid (HB6.out.trans (hb7.mono HB6.out.size))
    clear hb7 HBX6 HB6
    obtain ⟨z1, z2, z3⟩ := HBX7.out.cells
    obtain ⟨z4, z5, z6, z7, z8⟩ := HBX7.out.fault
    go_wp2_with fail
    refine (nil_clone _).mono ?_
    rintro e wx ⟨rfl, rfl⟩
    clear z1 z2 z3 z4 z5 z6 z7 z8
    go_wp2
    go_ret
    exact ⟨rfl, HB7.out⟩
  · have hn : n = 0 := by rw [← HN.out, HNI.out, hv, if_pos rfl]
    subst hn
    clear hv HNI
    go_wp2_with fail
    refine (awake26 _).mono ?_
    rintro e w3 ⟨rfl, hb3⟩
    have HBX3 := hid (HBX2.out.below hb3)
    have HB3 := hid (HB2.out.trans (hb3.mono HB2.out.size))
    clear hb3 HBX2 HB2
    obtain ⟨z1, z2, z3⟩ := HBX3.out.cells
    obtain ⟨z4, z5, z6, z7, z8⟩ := HBX3.out.fault
    go_wp2_with fail
    refine (nil_write _ x.term x.slot x.data).mono ?_
    rintro e w4 ⟨rfl, hb4⟩
    clear z1 z2 z3 z4 z5 z6 z7 z8
    have HBX4 := hid (HBX3.out.below hb4)
    have HB4 := hid (HB3.out.trans (hb4.mono HB3.out.size))
    clear hb4 HBX3 HB3
    obtain ⟨z1, z2, z3⟩ := HBX4.out.cells
    obtain ⟨z4, z5, z6, z7, z8⟩ := HBX4.out.fault
    go_wp2_with fail
    refine (nil_erase _ x.term x.slot).mono ?_
    rintro e w5 ⟨rfl, hb5⟩
    clear z1 z2 z3 z4 z5 z6 z7 z8
    have HBX5 := hid (HBX4.out.below hb5)
    have HB5 := hid (HB4.out.trans (hb5.mono HB4.out.size))
    clear hb5 HBX4 HB4
    obtain ⟨z1, z2, z3⟩ := HBX5.out.cells
    obtain ⟨z4, z5, z6, z7, z8⟩ := HBX5.out.fault
    go_wp2_with fail
    refine (nil_fence _ x.term).mono ?_
    rintro e wx ⟨rfl, rfl⟩
    clear z1 z2 z3 z4 z5 z6 z7 z8
    obtain ⟨z1, z2, z3⟩ := HBX5.out.cells
    obtain ⟨z4, z5, z6, z7, z8⟩ := HBX5.out.fault
    go_wp2_with fail
    refine (nil_inject _ x.fault).mono ?_
    rintro e w6 ⟨rfl, hb6⟩
    rw [HN.out]
    clear z1 z2 z3 z4 z5 z6 z7 z8
    have HBX6 := hid (HBX5.out.below hb6)
    have HB6 := hid (HB5.out.trans (hb6.mono HB5.out.size))
    clear hb6 HBX5 HB5
    obtain ⟨z1, z2, z3⟩ := HBX6.out.cells
    obtain ⟨z4, z5, z6, z7, z8⟩ := HBX6.out.fault
    go_wp2_with fail
    refine (nil_claim _).mono ?_
    rintro e wx ⟨rfl, rfl⟩
    clear z1 z2 z3 z4 z5 z6 z7 z8
    obtain ⟨z1, z2, z3⟩ := HBX6.out.cells
    obtain ⟨z4, z5, z6, z7, z8⟩ := HBX6.out.fault
    go_wp2_with fail
    refine (nil_platters _).mono ?_
    rintro e wx ⟨rfl, rfl⟩
    clear z1 z2 z3 z4 z5 z6 z7 z8
    obtain ⟨z1, z2, z3⟩ := HBX6.out.cells
    obtain ⟨z4, z5, z6, z7, z8⟩ := HBX6.out.fault
    go_wp2_with fail
    refine (nil_status _).mono ?_
    rintro e w7 ⟨rfl, hb7⟩
    clear z1 z2 z3 z4 z5 z6 z7 z8
    have HBX7 := hid (HBX6.out.below hb7)
    have HB7 := hid (HB6.out.trans (hb7.mono HB6.out.size))
    clear hb7 HBX6 HB6
    obtain ⟨z1, z2, z3⟩ := HBX7.out.cells
    obtain ⟨z4, z5, z6, z7, z8⟩ := HBX7.out.fault
    go_wp2_with fail
    refine (nil_clone _).mono ?_
    rintro e wx ⟨rfl, rfl⟩
    clear z1 z2 z3 z4 z5 z6 z7 z8
    go_wp2
    go_ret
    exact ⟨rfl, HB7.out⟩
end Go.Proofs.Ytiodfnjblimmbaa
