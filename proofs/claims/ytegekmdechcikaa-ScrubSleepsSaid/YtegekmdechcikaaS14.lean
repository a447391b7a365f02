/- ScrubSleeps. -/
import Derived.Test.YtegekmdechcikaaSC
namespace Go.Proofs.Ytegekmdechcikaa
open Go Go.RowKit Go.Sort

set_option maxRecDepth 100000 in
set_option maxHeartbeats 4000000 in
theorem law_ssleeps (c r t : Int) (v : Value) (l : List Hd) (x : Wt) (w : World) (hl : HeldsAt w v l) :
    Calls Try.prog 10 #[.int .i64 c, .int .i64 r, .int .i64 t, v, x.val] w fun e w' => e = .returned (.bool true) ∧ Below w.heap.size w w' := by
  have hb0 : Below w.heap.size w (w.alloc (.cells x.cells.toArray 36)) := (Below.refl _ _).alloc (Nat.le_refl _) _
  have HL := hid (ArgSl.below hl hb0 (Nat.le_refl _))
  have HB0 := hid hb0
  have HQ := hid (heap_alloc_new w (.cells x.cells.toArray 36))
  clear hl hb0
  go_enter Try.func10, Try.ntmps10
  go_upto_region 1 with fail
  generalize w.alloc (.cells x.cells.toArray 36) = w0 at *
  have hwl : w.heap.size < w0.heap.size := (Array.getElem?_eq_some_iff.1 HQ.out).1
  have HWL := hid hwl
  clear hwl
  go_wp2_with fail
  refine (light27_any HL.out (no_ops _)).mono ?_
  rintro e w1 ⟨lr, rfl, hlr, rfl⟩
  cases lr
  case false =>
    go_wp2_with (go_at_call 17; refine (awake27 _).mono ?_; rintro e w2 ⟨rfl, hb2⟩)
    go_ret
    exact ⟨rfl, HB0.out.trans (hb2.mono HB0.out.size)⟩
  case true =>
    obtain ⟨h60, hsm, _⟩ := hlr rfl
    have HSM := hid hsm
    clear hlr hsm
    go_wp2_with fail
    refine (prepared_any c r (clean := True) HL.out (no_ops _) HSM.out h60 (by simp) (fun _ => rfl)).mono ?_
    rintro e w1 ⟨a, b, o1, o2, S, rfl, hbo, hok, _, hab, hb1, hfi⟩
    have hfi := hfi trivial
    have hdead : S.dead = false := by
      have := hfi.on
      unfold Dv.online at this
      cases hx : S.dead
      · rfl
      · rw [hx] at this; simp at this
    have hva := vanish_eq hdead
    have hof : ({ S with off := true } : Dv).online = false := by simp [Dv.online]
    have hok2 : ({ S with off := true } : Dv).Ok := hok.same rfl rfl (fun _ e => e)
    have hb2 : Below w1.heap.size w1 (w1.alloc (.cells #[.pointer (some ⟨a, 0, none⟩), .pointer (some ⟨b, 0, none⟩)] 54)) := (Below.refl _ _).alloc (Nat.le_refl _) _
    have HBX := hid (show PairBox (w1.alloc (.cells #[.pointer (some ⟨a, 0, none⟩), .pointer (some ⟨b, 0, none⟩)] 54)) w1.heap.size a b from heap_alloc_new w1 _)
    have HD := hid (hbo.drv.below hb2)
    have HNQ := hid (show ¬ o1 w1.heap.size from fun e => by have := hbo.drv.under _ e; omega)
    have HAB := hid (show Above w0.heap.size o1 from fun k e => hab k (.inl e))
    have hw2 := hb1.trans (hb2.mono hb1.size)
    have OK := hid (And.intro hok hok2)
    have HVA := hid hva
    have HOF := hid hof
    have HPE := hid hfi.pend
    clear hb1 hb2 hbo hab hok hok2 hva hof hdead hfi
    go_upto_region 4 with fail
    generalize w1.alloc (.cells #[.pointer (some ⟨a, 0, none⟩), .pointer (some ⟨b, 0, none⟩)] 54) = w2 at *
    generalize w1.heap.size = q at *
    have z0 := HBX.out.cells.1
    go_wp2_with fail
    refine (inject_e HD.out OK.out.1 ⟨1, 0, 0, 0, 0⟩ (by rw [HPE.out]; decide)).mono ?_
    rintro e w3 ⟨rfl, hd3, hf3⟩
    rw [HVA.out] at hd3 ⊢
    generalize ({ S with off := true } : Dv) = F at *
    have HD3 := hid hd3
    have HA3 := hid (hf3.mv.above HAB.out hw2.size)
    have HNQ3 := hid (show ¬ Grow o1 w2 w3 q from fun e => by
      rcases e with e | e
      · exact HNQ.out e
      · have := HBX.out.lt; omega)
    have HBX3 := hid (HBX.out.fr hf3 HNQ.out)
    have hw3 := below_of_fr hw2 hf3 HAB.out hw2.size
    clear hd3 hf3 HD HBX HNQ HAB hw2 z0
    generalize Grow o1 w2 w3 = o3 at *
    have z0 := HBX3.out.cells.1
    go_wp2_with fail
    refine (platters_e HD3.out OK.out.2).mono ?_
    rintro e w4 ⟨v4, rfl, ht4, hb4⟩
    have HT4 := hid ht4
    have HD4 := hid (HD3.out.below hb4)
    have HBX4 := hid (HBX3.out.below hb4)
    have hw4 := hw3.trans (hb4.mono hw3.size)
    have HU4 := hid (show Apart (Grow NoOwn w3 w4) o3 from fun j e1 e2 => by
      have := HD3.out.under j e2
      rcases e1 with e1 | e1
      · exact e1
      · omega)
    clear ht4 hb4 HD3 HBX3 hw3 z0
    generalize Grow NoOwn w3 w4 = og at *
    have z0 := HBX4.out.cells.1
    have hcp := capOf_off (t := t) HOF.out
    have HCP := hid hcp
    clear hcp
    go_wp2_with fail
    refine (capacity_any HD4.out OK.out.2 t).mono ?_
    rintro e w5 ⟨rfl, hd5, hf5⟩
    rw [HCP.out] at hd5 ⊢
    have HD5 := hid hd5
    have HBX5 := hid (HBX4.out.fr hf5 HNQ3.out)
    have HT5 := hid (HT4.out.fr hf5 HU4.out)
    have hw5 := below_of_fr hw4 hf5 HA3.out hw4.size
    clear hd5 hf5 HD4 HBX4 HT4 hw4 z0
    have z0 := HBX5.out.cells.1
    have HI := hid (inv_off HOF.out)
    go_wp2_with fail
    refine (inventory_any HD5.out OK.out.2).mono ?_
    rintro e w6 ⟨v6, rfl, hv6, hb6⟩
    rw [HI.out] at hv6
    obtain ⟨B6, c6, rfl, _⟩ := OwnSl.form hv6
    rw [HOF.out, if_neg (by simp)]
    have HD6 := hid (HD5.out.below hb6)
    have HBX6 := hid (HBX5.out.below hb6)
    have HT6 := hid (OwnSl.below HT5.out hb6)
    have hw6 := hw5.trans (hb6.mono hw5.size)
    clear hv6 hb6 HD5 HBX5 HT5 hw5 z0
    have z0 := HBX6.out.cells.1
    have hq6 := (hw6.block _ HWL.out).trans HQ.out
    have z1 := cell_block hq6 0
    have z2 := cell_block hq6 1
    have z3 := cell_block hq6 2
    have z4 := cell_block hq6 3
    have z5 := cell_block hq6 4
    have z6 := cell_block hq6 5
    have z7 := cell_block hq6 6
    simp only [List.getElem?_toArray, List.getElem?_cons_zero, List.getElem?_cons_succ] at z1 z2 z3 z4 z5 z6 z7
    go_wp2_with fail
    have hb7 : Below w6.heap.size w6 (w6.alloc (.cells ([x, x].flatMap Wt.cells).toArray 36)) := (Below.refl _ _).alloc (Nat.le_refl _) _
    have hwa := wants_new (l := [x, x]) (heap_alloc_new w6 (.cells ([x, x].flatMap Wt.cells).toArray 36)) (by simp; unfold maxLen; omega) 2
    refine (classify_all (HD6.out.below hb7) OK.out.2 hwa (by simp)).mono ?_
    rintro e w7 ⟨v7, rfl, hv7, hb8⟩
    rw [show List.map (stateOf F) [x, x] = [9, 9] by rw [List.map_cons, List.map_cons, state_off HOF.out]; rfl] at hv7
    have HV7 := hid hv7
    have HD7 := hid ((HD6.out.below hb7).below hb8)
    have HBX7 := hid ((HBX6.out.below hb7).below hb8)
    have HT7 := hid (OwnSl.below (OwnSl.below HT6.out hb7) hb8)
    have hw7 := (hw6.trans (hb7.mono hw6.size)).trans (hb8.mono (by have := hw6.size; simp; omega))
    clear hv7 hb7 hb8 HD6 HBX6 HT6 hw6 hwa z0 z1 z2 z3 z4 z5 z6 z7 hq6
    go_wp2_with fail
    refine (nil_capacity w7 t).mono ?_
    rintro e w8 ⟨rfl, hb8⟩
    have HV8 := hid (OwnSl.below HV7.out hb8)
    have HD8 := hid (HD7.out.below hb8)
    have HBX8 := hid (HBX7.out.below hb8)
    have HT8 := hid (OwnSl.below HT7.out hb8)
    have hw8 := hw7.trans (hb8.mono hw7.size)
    clear hb8 HV7 HD7 HBX7 HT7 hw7
    go_wp2_with fail
    refine (awake27 _).mono ?_
    rintro e w9 ⟨rfl, hb9⟩
    have HV9 := hid (OwnSl.below HV8.out hb9)
    have HD9 := hid (HD8.out.below hb9)
    have HBX9 := hid (HBX8.out.below hb9)
    have HT9 := hid (OwnSl.below HT8.out hb9)
    have hw9 := hw8.trans (hb9.mono hw8.size)
    clear hb9 HV8 HD8 HBX8 HT8 hw8
    obtain ⟨g9, off9, c9, rfl, y0, y1⟩ := ints_two HV9.out
    have z0 := HBX9.out.cells.1
    have hq9 := (hw9.block _ HWL.out).trans HQ.out
    have z1 := cell_block hq9 0
    have z2 := cell_block hq9 1
    have z3 := cell_block hq9 2
    have z4 := cell_block hq9 3
    have z5 := cell_block hq9 4
    have z6 := cell_block hq9 5
    have z7 := cell_block hq9 6
    simp only [List.getElem?_toArray, List.getElem?_cons_zero, List.getElem?_cons_succ] at z1 z2 z3 z4 z5 z6 z7
    go_wp2_with fail
    refine (good_any HD9.out OK.out.2 x).mono ?_
    rintro e wA ⟨rfl, hbA⟩
    rw [state_off HOF.out, show isGood 9 = false from rfl]
    have HDA := hid (HD9.out.below hbA)
    have HBXA := hid (HBX9.out.below hbA)
    have HTA := hid (OwnSl.below HT9.out hbA)
    have hwA := hw9.trans (hbA.mono hw9.size)
    clear hbA HV9 HD9 HBX9 HT9 hw9 y0 y1 z0 z1 z2 z3 z4 z5 z6 z7 hq9
    have z0 := HBXA.out.cells.1
    go_wp2_with fail
    refine (platters_e HDA.out OK.out.2).mono ?_
    rintro e wB ⟨vB, rfl, htB, hbB⟩
    have HTB := hid (OwnSl.below HTA.out hbB)
    have HTC := hid htB
    have hwB := hwA.trans (hbB.mono hwA.size)
    clear hbB htB HDA HBXA HTA hwA z0
    go_wp2_with fail
    refine (same_b HTB.out HTC.out true (by simp)).mono ?_
    rintro e wC ⟨rfl, hbC⟩
    have HF := hid (HB0.out.trans ((hwB.trans (hbC.mono hwB.size)).mono HB0.out.size))
    clear hbC HTB HTC hwB
    go_wp2
    go_ret
    exact ⟨rfl, HF.out⟩
end Go.Proofs.Ytegekmdechcikaa
