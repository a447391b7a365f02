/- Inject of the reference's drive. -/
import Derived.Test.YtegekmdechcikaaERefW2
namespace Go.Proofs.Ytegekmdechcikaa
open Go Go.RowKit Go.Sort

theorem Src.fr {w w' : World} {size m : Nat} {x : Value} {xs : List Value} (h : Src w size x m xs) (hf : Fr NoOwn w w') : Src w' size x m xs := by
  refine ⟨h.1, ?_⟩
  rcases h.2 with h | ⟨ad, c, e, hc⟩
  · exact .inl h
  · refine .inr ⟨ad, c, e, fun j u hu => ?_⟩
    have h1 := hc j u hu
    have hb := hf.block (ad.add j).block (World.block_lt_of_cell? w _ h1) (fun e => e)
    rw [World.cell?_of_block hb]; exact h1
theorem at_cell {w : World} {a b c : Nat} {R S : Dv} (c1 : w.cell? ⟨a, 1, none⟩ = some (.slice (some ⟨b, 0, none⟩) R.secs.length c)) (hr : Rel R S) (hS : S.Ok) (s : Int) (hs : 0 ≤ s) :
    Calls Try.prog 71 #[.pointer (some ⟨a, 0, none⟩), .int .i64 s] w fun e w' => e = .returned (.int .i64 (S.at_ s : Nat)) ∧ w = w' := by
  obtain ⟨hl, hm⟩ := hr.one hS
  have ht : s.tmod (R.secs.length : Int) = ((S.at_ s : Nat) : Int) := by
    rw [← hr.at_]
    unfold Dv.at_
    rw [Int.tmod_eq_emod_of_nonneg hs, Int.toNat_of_nonneg (Int.emod_nonneg _ (by omega))]
  have ht2 : s % (R.secs.length : Int) = ((S.at_ s : Nat) : Int) := by rw [← ht, Int.tmod_eq_emod_of_nonneg hs]
  have HT := hid ht
  have HT2 := hid ht2
  clear ht ht2 hS hr
  go_enter Try.func71, Try.ntmps71
  go_wp2
  go_ret
  exact ⟨by first | rw [← HT.out]; rfl | rw [← HT2.out]; rfl, rfl⟩
theorem OwnSl.tight {w : World} {o : Own} {size n : Nat} {v : Value} {xs : List Value} (h : OwnSl w o size v n xs) : OwnSl w (fun k => o k ∧ k < w.heap.size) size v n xs := by
  obtain ⟨h1, h2⟩ := h
  refine ⟨h1, ?_⟩
  rcases h2 with h2 | ⟨g, off, cap, a, b, c, d⟩
  · exact .inl h2
  · exact .inr ⟨g, off, cap, a, ⟨b, c⟩, c, d⟩
section
variable {w : World} {o p : Own} {a b c : Nat} {pv : Value} {R S : Dv}
set_option maxRecDepth 100000 in
set_option maxHeartbeats 2000000 in
/-- No fault, or a dead drive. -/
theorem ref_inject_no (h : DrvB w o p a b c pv R) (hr : Rel R S) (f : Flt) (hno : Dv.valid S.claim f = false ∨ S.dead = true) :
    Calls Try.prog 63 #[.pointer (some ⟨a, 0, none⟩), f.val] w fun e w' => e = .returned (.int .i64 (S.inject f).1) ∧ Ref w' (Grow o w w') a (S.inject f).2 ∧ Fr o w w' := by
  have hb1 : Below w.heap.size w (w.alloc (fltObj f)) := (Below.refl _ _).alloc (Nat.le_refl _) _
  have hq := fault_block (f := f) w
  have hsz1 : (w.alloc (fltObj f)).heap.size = w.heap.size + 1 := by simp
  have h1 := h.below hb1
  have HU := hid h.un
  obtain ⟨c0, c1, c2, c3, c4, c5⟩ := h1.cells
  rw [hr.claim] at c0
  rw [hr.dead] at c3
  have HR := hid hr
  have HB := hid hb1
  have H1 := hid h1
  have k0 := cell_block hq 0
  have k1 := cell_block hq 1
  have k2 := cell_block hq 2
  have k3 := cell_block hq 3
  have k4 := cell_block hq 4
  simp only [List.getElem?_toArray, List.getElem?_cons_zero, List.getElem?_cons_succ] at k0 k1 k2 k3 k4
  have hal := h1.vals.lt
  clear h hb1 h1 hr hq c1 c2 c4 c5
  unfold Dv.inject
  go_enter Try.func63, Try.ntmps63
  go_upto_region 1 with fail
  generalize w.alloc (.cells #[.int .i64 f.kind, .int .i64 f.slot, .int .i64 f.bit, .int .i64 f.mask, .int .i64 f.dest] 43) = w1 at *
  clear hsz1
  generalize w.heap.size = q at k0 k1 k2 k3 k4 ⊢
  refine wp_region_quiet_tail 5 (fun w' => ∃ n, w' = w1.drewN n) ⟨1, rfl⟩ (by kernel_rfl) (by kernel_rfl) ?_
  simp only [List.take_succ_cons, List.take_zero, List.drop_succ_cons, List.drop_zero]
  repeat (go_big_quiet_step (fail))
  refine wpQuiet_nil ?_
  rintro _ ⟨nq, rfl⟩
  go_wp2_with fail
  refine (ref_valid f S.claim _).mono ?_
  rintro e w2 ⟨rfl, hb2⟩
  have hf2 : Fr o w w2 := ((Fr.ofBelow HB.out).drewN nq).thenBelow hb2
  have hx3 := (hb2.cell (p := ⟨a, 3, none⟩) hal).trans (show (w1.drewN nq).cell? ⟨a, 3, none⟩ = some (.bool S.dead) from c3)
  have H2 := hid (Ref.grow ⟨R, ⟨_, _, _, _, (H1.out.drewN nq).below hb2⟩, HR.out⟩ hf2 HU.out)
  have HF := hid hf2
  clear hf2 hb2 k0 k1 k2 k3 k4 c0 c3
  cases hv : Dv.valid S.claim f
  · clear hno
    go_wp2
    go_ret
    exact ⟨by simp, by simpa using H2.out, HF.out⟩
  · have hd : S.dead = true := by
      rcases hno with h | h
      · rw [hv] at h; cases h
      · exact h
    rw [hd] at hx3
    have HD := hid hd
    clear hno hd
    go_wp2
    all_goals go_ret
    all_goals exact ⟨by simp, by simpa [HD.out] using H2.out, HF.out⟩
set_option maxRecDepth 100000 in
set_option maxHeartbeats 4000000 in
theorem ref_inject_yes (h : DrvB w o p a b c pv R) (hr : Rel R S) (hS : S.Ok) (f : Flt) (hv : Dv.valid S.claim f = true) (hd : S.dead = false) (hn : S.pend.length ≤ 1000000) :
    Calls Try.prog 63 #[.pointer (some ⟨a, 0, none⟩), f.val] w fun e w' => e = .returned (.int .i64 0) ∧ Ref w' (Grow o w w') a (S.happen f) ∧ Fr o w w' := by
  have hb1 : Below w.heap.size w (w.alloc (fltObj f)) := (Below.refl _ _).alloc (Nat.le_refl _) _
  have hq := fault_block (f := f) w
  have hsz1 : (w.alloc (fltObj f)).heap.size = w.heap.size + 1 := by simp
  have h1 := h.below hb1
  have HU := hid h.un
  obtain ⟨c0, c1, c2, c3, c4, c5⟩ := h1.cells
  rw [hr.claim] at c0
  rw [hr.dead, hd] at c3
  have HR := hid hr
  have HB := hid hb1
  have H1 := hid h1
  have HS := hid hS
  have hk := valid_kind hv
  have HV := hid hv
  have HD := hid hd
  have hqa : a ≠ w.heap.size ∧ b ≠ w.heap.size := by have := h.vals.lt; have := h.secs.lt; omega
  have k0 := cell_block hq 0
  have k1 := cell_block hq 1
  have k2 := cell_block hq 2
  have k3 := cell_block hq 3
  have k4 := cell_block hq 4
  simp only [List.getElem?_toArray, List.getElem?_cons_zero, List.getElem?_cons_succ] at k0 k1 k2 k3 k4
  have hal := h1.vals.lt
  have hql : w.heap.size < (w.alloc (fltObj f)).heap.size := by simp
  clear h hb1 h1 hr hq hv hd hS c1 c2 c4 c5
  generalize hT : S.happen f = T
  have HT := hid hT
  clear hT
  go_enter Try.func63, Try.ntmps63
  go_upto_region 1 with fail
  generalize w.alloc (.cells #[.int .i64 f.kind, .int .i64 f.slot, .int .i64 f.bit, .int .i64 f.mask, .int .i64 f.dest] 43) = w1 at *
  clear hsz1
  generalize hqg : w.heap.size = q at k0 k1 k2 k3 k4 hqa hql ⊢
  have HQG := hid hqg
  clear hqg
  refine wp_region_quiet_tail 5 (fun w' => ∃ n, w' = w1.drewN n) ⟨1, rfl⟩ (by kernel_rfl) (by kernel_rfl) ?_
  simp only [List.take_succ_cons, List.take_zero, List.drop_succ_cons, List.drop_zero]
  repeat (go_big_quiet_step (fail))
  refine wpQuiet_nil ?_
  rintro _ ⟨nq, rfl⟩
  go_wp2_with fail
  refine (ref_valid f S.claim _).mono ?_
  rintro e w2 ⟨rfl, hb2⟩
  rw [HV.out]
  have hbq : Below w1.heap.size w1 w2 := (below_drew w1 nq).trans hb2
  have hf2 : Fr o w w2 := ((Fr.ofBelow (HQG.out ▸ HB.out)).drewN nq).thenBelow hb2
  have x3 := (hbq.cell (p := ⟨a, 3, none⟩) hal).trans c3
  have x0 := (hbq.cell (p := ⟨q, 0, none⟩) hql).trans k0
  have x1 := (hbq.cell (p := ⟨q, 1, none⟩) hql).trans k1
  have x2 := (hbq.cell (p := ⟨q, 2, none⟩) hql).trans k2
  have xm := (hbq.cell (p := ⟨q, 3, none⟩) hql).trans k3
  have x4 := (hbq.cell (p := ⟨q, 4, none⟩) hql).trans k4
  have H2 := hid ((H1.out.drewN nq).below hb2)
  have HF := hid hf2
  have hal2 := H2.out.vals.lt
  have hql2 : q < w2.heap.size := Nat.lt_of_lt_of_le hql hbq.size
  clear hf2 hb2 hbq k0 k1 k2 k3 k4 c0 c3 hal hql H1 HB
  rcases hk with hk | hk | hk | hk | hk | hk | hk
  · have hT : T = { S with off := true } := by rw [← HT.out]; unfold Dv.happen; simp [hk]
    have HT2 := hid hT
    clear hT
    have e1 := (beq_iff_eq (a := f.kind) (b := 1)).2 hk
    have e2 : (f.kind == 2) = false := by rw [beq_eq_false_iff_ne]; omega
    have e3 : (f.kind == 3) = false := by rw [beq_eq_false_iff_ne]; omega
    have e4 : (f.kind == 4) = false := by rw [beq_eq_false_iff_ne]; omega
    have e5 : (f.kind == 5) = false := by rw [beq_eq_false_iff_ne]; omega
    have e6 : (f.kind == 6) = false := by rw [beq_eq_false_iff_ne]; omega
    have e7 : (f.kind == 7) = false := by rw [beq_eq_false_iff_ne]; omega
    have HK := hid hk
    clear hk
    have c2 := H2.out.cells.2.2.1
    have f2 := H2.out.free 2 (by omega)
    go_wp2
    go_ret
    have hff := HF.out.setCell ⟨a, 2, none⟩ (.bool false) (.inl H2.out.oa)
    refine ⟨rfl, ?_, hff⟩
    rw [HT2.out]
    exact Ref.grow ⟨_, ⟨_, _, _, _, H2.out.offTo false⟩, ⟨HR.out.claim, by show false = (!S.dead && !true); rw [HD.out]; rfl, HR.out.dead, HR.out.term, HR.out.pend, HR.out.len, HR.out.secs⟩⟩ hff HU.out
  · have hT : T = { S with off := false } := by rw [← HT.out]; unfold Dv.happen; simp [hk]
    have HT2 := hid hT
    clear hT
    have e1 : (f.kind == 1) = false := by rw [beq_eq_false_iff_ne]; omega
    have e2 := (beq_iff_eq (a := f.kind) (b := 2)).2 hk
    have e3 : (f.kind == 3) = false := by rw [beq_eq_false_iff_ne]; omega
    have e4 : (f.kind == 4) = false := by rw [beq_eq_false_iff_ne]; omega
    have e5 : (f.kind == 5) = false := by rw [beq_eq_false_iff_ne]; omega
    have e6 : (f.kind == 6) = false := by rw [beq_eq_false_iff_ne]; omega
    have e7 : (f.kind == 7) = false := by rw [beq_eq_false_iff_ne]; omega
    have HK := hid hk
    clear hk
    have c2 := H2.out.cells.2.2.1
    have f2 := H2.out.free 2 (by omega)
    go_wp2
    go_ret
    have hff := HF.out.setCell ⟨a, 2, none⟩ (.bool true) (.inl H2.out.oa)
    refine ⟨rfl, ?_, hff⟩
    rw [HT2.out]
    exact Ref.grow ⟨_, ⟨_, _, _, _, H2.out.offTo true⟩, ⟨HR.out.claim, by show true = (!S.dead && !false); rw [HD.out]; rfl, HR.out.dead, HR.out.term, HR.out.pend, HR.out.len, HR.out.secs⟩⟩ hff HU.out
  · have hT : T = S.die := by rw [← HT.out]; unfold Dv.happen; simp [hk]
    have HT2 := hid hT
    clear hT
    have e1 : (f.kind == 1) = false := by rw [beq_eq_false_iff_ne]; omega
    have e2 : (f.kind == 2) = false := by rw [beq_eq_false_iff_ne]; omega
    have e3 := (beq_iff_eq (a := f.kind) (b := 3)).2 hk
    have e4 : (f.kind == 4) = false := by rw [beq_eq_false_iff_ne]; omega
    have e5 : (f.kind == 5) = false := by rw [beq_eq_false_iff_ne]; omega
    have e6 : (f.kind == 6) = false := by rw [beq_eq_false_iff_ne]; omega
    have e7 : (f.kind == 7) = false := by rw [beq_eq_false_iff_ne]; omega
    have HK := hid hk
    clear hk
    have c2 := H2.out.cells.2.2.1
    have c5 := H2.out.cells.2.2.2.2.2
    have f3 := H2.out.free 3 (by omega)
    have f5 := H2.out.free 5 (by omega)
    have f2 := H2.out.free 2 (by omega)
    have h3 := ((H2.out.deadTo true).offTo false).poke 5 (.slice none 0 0) (by omega) (S' := { R with dead := true, off := false, pend := [] }) (pv' := .slice none 0 0) (p' := NoOwn) rfl rfl (OwnSl.nil _ _ _) (fun e => e) (fun e => e) (fun _ e => e.elim)
    have hf3 := ((HF.out.setCell ⟨a, 3, none⟩ (.bool true) (.inl H2.out.oa)).setCell ⟨a, 2, none⟩ (.bool false) (.inl H2.out.oa)).setCell ⟨a, 5, none⟩ (.slice none 0 0) (.inl H2.out.oa)
    have H3 := hid h3
    have HF3 := hid hf3
    clear h3 hf3
    go_wp2
    go_ret
    refine ⟨rfl, ?_, HF3.out⟩
    rw [HT2.out]
    exact Ref.grow ⟨_, ⟨_, _, _, _, H3.out⟩, ⟨HR.out.claim, rfl, rfl, HR.out.term, rfl, by simp [Dv.die, HR.out.len], fun e => by simp [Dv.die] at e⟩⟩ HF3.out HU.out
  · have hT : T = S.put f.slot ((S.get f.slot).flip f.bit f.mask) := by rw [← HT.out]; unfold Dv.happen; simp [hk]
    have HT2 := hid hT
    clear hT
    have hrg := valid_flip HV.out hk
    have e1 : (f.kind == 1) = false := by rw [beq_eq_false_iff_ne]; omega
    have e2 : (f.kind == 2) = false := by rw [beq_eq_false_iff_ne]; omega
    have e3 : (f.kind == 3) = false := by rw [beq_eq_false_iff_ne]; omega
    have e4 := (beq_iff_eq (a := f.kind) (b := 4)).2 hk
    have e5 : (f.kind == 5) = false := by rw [beq_eq_false_iff_ne]; omega
    have e6 : (f.kind == 6) = false := by rw [beq_eq_false_iff_ne]; omega
    have e7 : (f.kind == 7) = false := by rw [beq_eq_false_iff_ne]; omega
    have HK := hid hk
    clear hk
    obtain ⟨hs0, hb0, hb1, hm0, hm1⟩ := hrg
    obtain ⟨bn, hbn⟩ := Int.eq_ofNat_of_zero_le hb0
    obtain ⟨m, hm⟩ : ∃ m : BitVec 32, f.mask = (m.toNat : Int) := ⟨BitVec.ofInt 32 f.mask, by rw [BitVec.toNat_ofInt]; omega⟩
    have hbn2 : bn < 288 := by omega
    rw [hbn] at x2
    rw [hm] at xm
    have hm2 := (u32_range m).2
    have HBN := hid hbn
    have HM := hid hm
    clear hbn hm hb0 hb1 hm0 hm1
    have hlt := HR.out.lt HS.out f.slot
    have y1 := H2.out.cells.2.1
    have y0 : (0 : Int) ≤ ((S.at_ f.slot : Nat) : Int) := by omega
    have y2 : ((S.at_ f.slot : Nat) : Int) < (R.secs.length : Int) := by omega
    have HAT := hid (fun W (hW : DrvB W o p a b c pv R) => at_any hW HR.out HS.out f.slot hs0)
    have hget : R.secs[S.at_ f.slot] = S.get f.slot := by
      rw [S.get_eq HS.out]
      congr 1
      exact HR.out.secs HD.out
    obtain ⟨sd, su, sm, hsec⟩ : ∃ sd su sm, S.get f.slot = ⟨sd, su, sm⟩ := ⟨_, _, _, rfl⟩
    obtain ⟨z0, z1, z2⟩ := H2.out.secs.cells (S.at_ f.slot) hlt
    rw [hget, hsec] at z0 z1 z2
    dsimp only at z0 z1 z2
    have hds : sd.size = 36 := by have := S.get_size HS.out f.slot; rw [hsec] at this; exact this
    have HDS := hid hds
    have HGET := hid hget
    have HSEC := hid hsec
    clear hget hsec hds
    go_upto_region 14 with fail
    have HAC := hid (fun W (hW : W.cell? ⟨a, 1, none⟩ = some (.slice (some ⟨b, 0, none⟩) R.secs.length c)) => at_cell (w := W) hW HR.out HS.out f.slot hs0)
    go_region_held3 (fun w' => w'.cell? ⟨a, 1, none⟩ = some (.slice (some ⟨b, 0, none⟩) R.secs.length c) ∧ w'.cell? ⟨q, 1, none⟩ = some (.int .i64 f.slot) ∧ w'.cell? ⟨b, S.at_ f.slot * 3, none⟩ = some (.string sd) ∧ w'.cell? ⟨b, S.at_ f.slot * 3 + 1, none⟩ = some (.bool su) ∧ w'.cell? ⟨b, S.at_ f.slot * 3 + 2, none⟩ = some (.bool sm))
      (go_keep)
      ((go_at_call 71; refine (HAC.out _ (by first | exact y1 | exact (World.cell?_alloc_lt w2 _ ⟨a, 1, none⟩ hal2).trans y1)).mono ?_; rintro e w' ⟨rfl, rfl⟩))
    all_goals
      have hb4 : Below w2.heap.size w2 (w2.alloc (.cells #[.string sd, .bool su, .bool sm] 117)).drew := ((Below.refl _ _).alloc (Nat.le_refl _) _).drew
      have vq : ValsAt (w2.alloc (.cells #[.string sd, .bool su, .bool sm] 117)).drew w2.heap.size [.string sd, .bool su, .bool sm] := (vals_new w2 [.string sd, .bool su, .bool sm] 117).below ((Below.refl (w2.heap.size + 1) _).drew) (Nat.lt_succ_self _)
      have v1 := (hb4.cell (p := ⟨q, 1, none⟩) hql2).trans x1
      have v2 := (hb4.cell (p := ⟨q, 2, none⟩) hql2).trans x2
      have v3 := (hb4.cell (p := ⟨q, 3, none⟩) hql2).trans xm
      have H4 := hid (H2.out.below hb4)
      have HF4 := hid (HF.out.thenBelow hb4)
      have hq2 : ¬ o w2.heap.size := fun e => by have := H2.out.un _ e; omega
      have hqq : q ≠ w2.heap.size := by omega
      have hq2w : w.heap.size ≤ w2.heap.size := by rw [HQG.out]; omega
      have hql4 : q < (w2.alloc (.cells #[.string sd, .bool su, .bool sm] 117)).drew.heap.size := Nat.lt_of_lt_of_le hql2 hb4.size
      clear x0 x1 x2 xm x4 x3 z0 z1 z2 y1 hb4 H2 HF HAC HAT hal2 hql2
      generalize (w2.alloc (.cells #[.string sd, .bool su, .bool sm] 117)).drew = w4 at *
      generalize w2.heap.size = q2 at *
      have VQ := hid vq
      have s0 := vq.cell 0 (by simp)
      have s1 := vq.cell 1 (by simp)
      have s2 := vq.cell 2 (by simp)
      simp only [List.getElem_cons_succ, List.getElem_cons_zero] at s0 s1 s2
      clear vq
      cases sm
      case true =>
        go_wp2
        go_ret
        refine ⟨rfl, ?_, HF4.out⟩
        have hput : S.put f.slot ((S.get f.slot).flip f.bit f.mask) = S := by
          rw [HSEC.out]
          unfold Sec.flip
          rw [if_pos rfl, ← HSEC.out, S.get_eq HS.out]
          unfold Dv.put
          rw [List.set_getElem_self]
        rw [HT2.out, hput]
        exact Ref.grow ⟨_, ⟨_, _, _, _, H4.out⟩, HR.out⟩ HF4.out HU.out
      case false =>
        go_wp2_with fail
        refine (flip_any sd bn m _ (by rw [HDS.out]; decide) (by omega)).mono ?_
        rintro e w5 ⟨rfl, hb5⟩
        have hv5 := VQ.out.below hb5 VQ.out.lt
        have t0 := hv5.cell 0 (by simp)
        have t2 := hv5.cell 2 (by simp)
        have g0 := hv5.free 0 (by simp)
        have g2 := hv5.free 2 (by simp)
        simp only [List.getElem_cons_succ, List.getElem_cons_zero] at t0 t2
        have hv6 := (hv5.store 0 (str (flipL sd.data.toList bn m 32)) (by simp)).store 2 (.bool true) (by simp)
        have hff : Fr (fun k => k = q2) w5 ((w5.setCell ⟨q2, 0, none⟩ (str (flipL sd.data.toList bn m 32))).setCell ⟨q2, 2, none⟩ (.bool true)) := Fr.setCell (o := fun k => k = q2) (Fr.setCell (o := fun k => k = q2) (Fr.refl (fun k => k = q2) w5) ⟨q2, 0, none⟩ _ (.inl rfl)) ⟨q2, 2, none⟩ _ (.inl rfl)
        have b1 := (hb5.cell (p := ⟨q, 1, none⟩) hql4).trans v1
        have hql5 : q < w5.heap.size := Nat.lt_of_lt_of_le hql4 hb5.size
        have d1 := (hff.cell_far ⟨q, 1, none⟩ hql5 hqq).trans b1
        have H6 := hid ((H4.out.below hb5).fr hff (fun k e1 e2 => hq2 (e2 ▸ e1)))
        have HF6 := hid (((HF4.out.thenBelow hb5).setCell ⟨q2, 0, none⟩ (str (flipL sd.data.toList bn m 32)) (.inr hq2w)).setCell ⟨q2, 2, none⟩ (.bool true) (.inr hq2w))
        have HV6 := hid hv6
        clear hv5 hv6 hff b1 v1 v2 v3 s0 s1 s2 VQ H4 HF4 hb5
        go_upto_region 17 with fail
        generalize (w5.setCell ⟨q2, 0, none⟩ (str (flipL sd.data.toList bn m 32))).setCell ⟨q2, 2, none⟩ (.bool true) = w6 at *
        clear t0 t2 g0 g2
        have p0 := HV6.out.cell 0 (by simp)
        have p1 := HV6.out.cell 1 (by simp)
        have p2 := HV6.out.cell 2 (by simp)
        simp at p0 p1 p2
        have y1 := H6.out.cells.2.1
        have HAT := hid (fun W (hW : DrvB W o p a b c pv R) => at_any hW HR.out HS.out f.slot hs0)
        refine wp_region_quiet_tail 10 (fun w' => ∃ n, w' = w6.drewN n) ⟨1, rfl⟩ (by kernel_rfl) (by kernel_rfl) ?_
        simp only [List.take_succ_cons, List.take_zero, List.drop_succ_cons, List.drop_zero]
        repeat (go_big_quiet_step ((go_at_call 71; exact quiet_left (HAT.out _ (H6.out.drewN _)))))
        refine wpQuiet_nil ?_
        rintro _ ⟨nr, rfl⟩
        have hth := (H6.out.drewN nr).secs.free (S.at_ f.slot) hlt
        go_wp2_with (refine wpList_store_mid rfl 117 (.tmp 85) (.tmp 84) rfl b (S.at_ f.slot * 3) #[str (flipL sd.data.toList bn m 32), .bool su, .bool true] rfl rfl hth rsec_size (sec_one _ _ _) ?_)
        go_ret
        have hfin := (H6.out.drewN nr).write (S.at_ f.slot) ⟨⟨(flipL sd.data.toList bn m 32).toArray⟩, su, true⟩ hlt
        have hfr : Fr o w ((w6.drewN nr).setCells b (S.at_ f.slot * 3) (Sec.cells ⟨⟨(flipL sd.data.toList bn m 32).toArray⟩, su, true⟩)) := Fr.setCells (.inl H6.out.ob) _ _ _ (HF6.out.drewN nr)
        refine ⟨rfl, ?_, hfr⟩
        have hfl : (S.get f.slot).flip f.bit f.mask = ⟨⟨(flipL sd.data.toList bn m 32).toArray⟩, su, true⟩ := by
          rw [HSEC.out]
          unfold Sec.flip flipD
          rw [if_neg (by simp), HBN.out, HM.out, Int.toNat_natCast, ofInt_bv]
        rw [HT2.out, hfl]
        exact Ref.grow ⟨_, ⟨_, _, _, _, hfin⟩, HR.out.put HD.out f.slot _⟩ hfr HU.out
  · have hT : T = { S with pend := S.pend ++ [f] } := by rw [← HT.out]; unfold Dv.happen; simp [hk]
    have HT2 := hid hT
    clear hT
    have e1 : (f.kind == 1) = false := by rw [beq_eq_false_iff_ne]; omega
    have e2 : (f.kind == 2) = false := by rw [beq_eq_false_iff_ne]; omega
    have e3 : (f.kind == 3) = false := by rw [beq_eq_false_iff_ne]; omega
    have e4 : (f.kind == 4) = false := by rw [beq_eq_false_iff_ne]; omega
    have e5 := (beq_iff_eq (a := f.kind) (b := 5)).2 hk
    have e6 : (f.kind == 6) = false := by rw [beq_eq_false_iff_ne]; omega
    have e7 : (f.kind == 7) = false := by rw [beq_eq_false_iff_ne]; omega
    have HK := hid hk
    clear hk
    have c5 := H2.out.cells.2.2.2.2.2
    have f5 := H2.out.free 5 (by omega)
    obtain ⟨i0, hi0, hz0, hz1, hz2⟩ := info_parts Try.info_flt
    have hpl : R.pend.length = S.pend.length := by rw [HR.out.pend]
    have hn2 : R.pend.length ≤ 1000000 := by omega
    have HN := hid hn2
    have HBD := hid ((Below.refl w2.heap.size w2).drew)
    have HBA := hid (((Below.refl w2.heap.size w2).alloc (Nat.le_refl _) (fltObj f)).drew)
    have HPD := hid (H2.out.pend.below HBD.out).src
    have HPA := hid (H2.out.pend.below HBA.out).src
    have HSA := hid (show Src (w2.alloc (fltObj f)).drew 5 (.slice (some ⟨w2.heap.size, 0, none⟩) 1 1) 1 f.cells from ⟨rfl, .inr ⟨_, 1, rfl, World.news_of_block (cs := #[.int .i64 f.kind, .int .i64 f.slot, .int .i64 f.bit, .int .i64 f.mask, .int .i64 f.dest]) (fr := (0, 0)) (heap_alloc_new w2 _)⟩⟩)
    obtain ⟨Ap, capp, rfl, hcapp⟩ := H2.out.pend.form
    have hp0 : 0 < R.pend.length ∨ R.pend.length = 0 := by omega
    clear hn hpl hn2
    go_upto_region 6 with fail
    go_region_law (first
      | (refine step_append_sl (by rfl) (.const (.slice none 0 0)) (.tmp 23) _ (by rfl) 43 i0 _ 5 40 Try.underlying65 hi0 hz0 hz1 hz2 rfl (by omega) NoOwn (.slice none 0 0) (.slice Ap R.pend.length capp) 0 R.pend.length [] (fltCells R.pend) (by rfl) (by rfl) (OwnSl.nil _ _ _) (by first | exact HPA.out | exact HPD.out) (fltCells_one _) (by have := HN.out; unfold maxLen; omega) (by have := HN.out; omega) ?_; intro v3 w3 hown3 hgrow3; simp only [Nat.zero_add, List.nil_append] at hown3; obtain ⟨A3, cap3, rfl, hc3⟩ := hown3.form; have y0 := (hgrow3.cell_far ⟨q, 0, none⟩ (by first | exact hql2 | exact Nat.lt_of_lt_of_le hql2 HBA.out.size) (fun e => e)).trans (by first | exact x0 | exact (HBA.out.cell (p := ⟨q, 0, none⟩) hql2).trans x0); have y1 := (hgrow3.cell_far ⟨q, 1, none⟩ (by first | exact hql2 | exact Nat.lt_of_lt_of_le hql2 HBA.out.size) (fun e => e)).trans (by first | exact x1 | exact (HBA.out.cell (p := ⟨q, 1, none⟩) hql2).trans x1); have y2 := (hgrow3.cell_far ⟨q, 2, none⟩ (by first | exact hql2 | exact Nat.lt_of_lt_of_le hql2 HBA.out.size) (fun e => e)).trans (by first | exact x2 | exact (HBA.out.cell (p := ⟨q, 2, none⟩) hql2).trans x2); have y3 := (hgrow3.cell_far ⟨q, 3, none⟩ (by first | exact hql2 | exact Nat.lt_of_lt_of_le hql2 HBA.out.size) (fun e => e)).trans (by first | exact xm | exact (HBA.out.cell (p := ⟨q, 3, none⟩) hql2).trans xm); have y4 := (hgrow3.cell_far ⟨q, 4, none⟩ (by first | exact hql2 | exact Nat.lt_of_lt_of_le hql2 HBA.out.size) (fun e => e)).trans (by first | exact x4 | exact (HBA.out.cell (p := ⟨q, 4, none⟩) hql2).trans x4); have g5 := (hgrow3.cell_far ⟨a, 5, none⟩ (by first | exact hal2 | exact Nat.lt_of_lt_of_le hal2 HBA.out.size) (fun e => e)).trans (by first | exact c5 | exact (HBA.out.cell (p := ⟨a, 5, none⟩) hal2).trans c5); have gf5 := (hgrow3.frozen_far ⟨a, 5, none⟩ (by first | exact hal2 | exact Nat.lt_of_lt_of_le hal2 HBA.out.size) (fun e => e)).trans (by first | exact f5 | exact (HBA.out.frozen (p := ⟨a, 5, none⟩) hal2).trans f5); have HW3 := hid (show Below w2.heap.size w2 w3 by first | exact HBD.out.trans (hgrow3.below (fun _ e => e.elim) (Nat.le_refl _)) | exact HBA.out.trans (hgrow3.below (fun _ e => e.elim) HBA.out.size)); have HO3 := hid (OwnSl.mono (o2 := New w2) hown3 (fun x e => by first | exact (e.elim (fun e => e.elim) (fun e => e.1)) | exact (e.elim (fun e => e.elim) (fun e => Nat.le_trans HBA.out.size e.1)))); try have HS3 := hid (HSA.out.fr hgrow3))
      | (refine step_append_sl (by rfl) (.tmp 24) (.tmp 26) _ (by rfl) 43 i0 _ 5 40 Try.underlying65 hi0 hz0 hz1 hz2 rfl (by omega) (New w2) (.slice A3 R.pend.length cap3) _ R.pend.length 1 (fltCells R.pend) f.cells (by rfl) (by rfl) (by first | exact HO3.out | exact HO3.out.below ((Below.refl _ _).alloc (Nat.le_refl _) _)) (by first | exact HS3.out | exact ⟨rfl, .inr ⟨_, 1, rfl, World.news_of_block (cs := #[.int .i64 f.kind, .int .i64 f.slot, .int .i64 f.bit, .int .i64 f.mask, .int .i64 f.dest]) (fr := (0, 0)) (heap_alloc_new w3 _)⟩⟩) (by simp [Flt.cells, Value.oneCell']) (by have := HN.out; unfold maxLen; omega) (by have := HN.out; omega) ?_; intro v4 w4 hown4 hgrow4; obtain ⟨A4, cap4, rfl, hc4⟩ := hown4.form; have hal3 := Nat.lt_of_lt_of_le hal2 HW3.out.size; have hna : ¬ New w2 a := Nat.not_le.2 hal2; have g6 := (hgrow4.cell_far ⟨a, 5, none⟩ (by first | exact hal3 | exact Nat.lt_of_lt_of_le hal3 (by simp)) hna).trans (by first | exact g5 | exact (World.cell?_alloc_lt w3 _ ⟨a, 5, none⟩ hal3).trans g5); have gf6 := (hgrow4.frozen_far ⟨a, 5, none⟩ (by first | exact hal3 | exact Nat.lt_of_lt_of_le hal3 (by simp)) hna).trans (by first | exact gf5 | exact (((Below.refl w3.heap.size w3).alloc (Nat.le_refl _) _).frozen (p := ⟨a, 5, none⟩) hal3).trans gf5); have HB4 := hid (show Below w2.heap.size w2 w4 by first | exact HW3.out.trans (hgrow4.below (fun _ e => e) HW3.out.size) | exact (HW3.out.alloc HW3.out.size _).trans (hgrow4.below (fun _ e => e) (Nat.le_trans HW3.out.size (by simp)))); have HO4 := hid ((OwnSl.mono (o2 := New w2) hown4 (fun x e => e.elim (fun e => e) (fun e => by first | exact Nat.le_trans HW3.out.size e.1 | exact Nat.le_trans (Nat.le_trans HW3.out.size (by simp)) e.1))).tight); clear hown4 hgrow4 hal3 hna))
    all_goals
      have ho5 : OwnSl w4 (Grow NoOwn w2 w4) 5 (.slice A4 (R.pend.length + 1) cap4) (R.pend ++ [f]).length (fltCells (R.pend ++ [f])) := by
        rw [List.length_append, fltCells_snoc]
        exact HO4.out.mono (fun x e => .inr e)
      have HE := hid (DrvB.repend H2.out HF.out HU.out (Fr.ofBelow HB4.out) (q := R.pend ++ [f]) ho5)
      clear ho5 g5 gf5 g6 gf6 HO4 HB4 HO3 HW3
      go_wp2
      go_ret
      refine ⟨rfl, ?_, HE.out.2⟩
      rw [HT2.out]
      exact ⟨_, ⟨_, _, _, _, HE.out.1⟩, ⟨HR.out.claim, HR.out.on, HR.out.dead, HR.out.term, by show R.pend ++ [f] = S.pend ++ [f]; rw [HR.out.pend], HR.out.len, HR.out.secs⟩⟩
  · have hT : T = { S with pend := S.pend ++ [f] } := by rw [← HT.out]; unfold Dv.happen; simp [hk]
    have HT2 := hid hT
    clear hT
    have e1 : (f.kind == 1) = false := by rw [beq_eq_false_iff_ne]; omega
    have e2 : (f.kind == 2) = false := by rw [beq_eq_false_iff_ne]; omega
    have e3 : (f.kind == 3) = false := by rw [beq_eq_false_iff_ne]; omega
    have e4 : (f.kind == 4) = false := by rw [beq_eq_false_iff_ne]; omega
    have e5 : (f.kind == 5) = false := by rw [beq_eq_false_iff_ne]; omega
    have e6 := (beq_iff_eq (a := f.kind) (b := 6)).2 hk
    have e7 : (f.kind == 7) = false := by rw [beq_eq_false_iff_ne]; omega
    have HK := hid hk
    clear hk
    have c5 := H2.out.cells.2.2.2.2.2
    have f5 := H2.out.free 5 (by omega)
    obtain ⟨i0, hi0, hz0, hz1, hz2⟩ := info_parts Try.info_flt
    have hpl : R.pend.length = S.pend.length := by rw [HR.out.pend]
    have hn2 : R.pend.length ≤ 1000000 := by omega
    have HN := hid hn2
    have HBD := hid ((Below.refl w2.heap.size w2).drew)
    have HBA := hid (((Below.refl w2.heap.size w2).alloc (Nat.le_refl _) (fltObj f)).drew)
    have HPD := hid (H2.out.pend.below HBD.out).src
    have HPA := hid (H2.out.pend.below HBA.out).src
    have HSA := hid (show Src (w2.alloc (fltObj f)).drew 5 (.slice (some ⟨w2.heap.size, 0, none⟩) 1 1) 1 f.cells from ⟨rfl, .inr ⟨_, 1, rfl, World.news_of_block (cs := #[.int .i64 f.kind, .int .i64 f.slot, .int .i64 f.bit, .int .i64 f.mask, .int .i64 f.dest]) (fr := (0, 0)) (heap_alloc_new w2 _)⟩⟩)
    obtain ⟨Ap, capp, rfl, hcapp⟩ := H2.out.pend.form
    have hp0 : 0 < R.pend.length ∨ R.pend.length = 0 := by omega
    clear hn hpl hn2
    go_upto_region 6 with fail
    go_region_law (first
      | (refine step_append_sl (by rfl) (.const (.slice none 0 0)) (.tmp 23) _ (by rfl) 43 i0 _ 5 40 Try.underlying65 hi0 hz0 hz1 hz2 rfl (by omega) NoOwn (.slice none 0 0) (.slice Ap R.pend.length capp) 0 R.pend.length [] (fltCells R.pend) (by rfl) (by rfl) (OwnSl.nil _ _ _) (by first | exact HPA.out | exact HPD.out) (fltCells_one _) (by have := HN.out; unfold maxLen; omega) (by have := HN.out; omega) ?_; intro v3 w3 hown3 hgrow3; simp only [Nat.zero_add, List.nil_append] at hown3; obtain ⟨A3, cap3, rfl, hc3⟩ := hown3.form; have y0 := (hgrow3.cell_far ⟨q, 0, none⟩ (by first | exact hql2 | exact Nat.lt_of_lt_of_le hql2 HBA.out.size) (fun e => e)).trans (by first | exact x0 | exact (HBA.out.cell (p := ⟨q, 0, none⟩) hql2).trans x0); have y1 := (hgrow3.cell_far ⟨q, 1, none⟩ (by first | exact hql2 | exact Nat.lt_of_lt_of_le hql2 HBA.out.size) (fun e => e)).trans (by first | exact x1 | exact (HBA.out.cell (p := ⟨q, 1, none⟩) hql2).trans x1); have y2 := (hgrow3.cell_far ⟨q, 2, none⟩ (by first | exact hql2 | exact Nat.lt_of_lt_of_le hql2 HBA.out.size) (fun e => e)).trans (by first | exact x2 | exact (HBA.out.cell (p := ⟨q, 2, none⟩) hql2).trans x2); have y3 := (hgrow3.cell_far ⟨q, 3, none⟩ (by first | exact hql2 | exact Nat.lt_of_lt_of_le hql2 HBA.out.size) (fun e => e)).trans (by first | exact xm | exact (HBA.out.cell (p := ⟨q, 3, none⟩) hql2).trans xm); have y4 := (hgrow3.cell_far ⟨q, 4, none⟩ (by first | exact hql2 | exact Nat.lt_of_lt_of_le hql2 HBA.out.size) (fun e => e)).trans (by first | exact x4 | exact (HBA.out.cell (p := ⟨q, 4, none⟩) hql2).trans x4); have g5 := (hgrow3.cell_far ⟨a, 5, none⟩ (by first | exact hal2 | exact Nat.lt_of_lt_of_le hal2 HBA.out.size) (fun e => e)).trans (by first | exact c5 | exact (HBA.out.cell (p := ⟨a, 5, none⟩) hal2).trans c5); have gf5 := (hgrow3.frozen_far ⟨a, 5, none⟩ (by first | exact hal2 | exact Nat.lt_of_lt_of_le hal2 HBA.out.size) (fun e => e)).trans (by first | exact f5 | exact (HBA.out.frozen (p := ⟨a, 5, none⟩) hal2).trans f5); have HW3 := hid (show Below w2.heap.size w2 w3 by first | exact HBD.out.trans (hgrow3.below (fun _ e => e.elim) (Nat.le_refl _)) | exact HBA.out.trans (hgrow3.below (fun _ e => e.elim) HBA.out.size)); have HO3 := hid (OwnSl.mono (o2 := New w2) hown3 (fun x e => by first | exact (e.elim (fun e => e.elim) (fun e => e.1)) | exact (e.elim (fun e => e.elim) (fun e => Nat.le_trans HBA.out.size e.1)))); try have HS3 := hid (HSA.out.fr hgrow3))
      | (refine step_append_sl (by rfl) (.tmp 24) (.tmp 26) _ (by rfl) 43 i0 _ 5 40 Try.underlying65 hi0 hz0 hz1 hz2 rfl (by omega) (New w2) (.slice A3 R.pend.length cap3) _ R.pend.length 1 (fltCells R.pend) f.cells (by rfl) (by rfl) (by first | exact HO3.out | exact HO3.out.below ((Below.refl _ _).alloc (Nat.le_refl _) _)) (by first | exact HS3.out | exact ⟨rfl, .inr ⟨_, 1, rfl, World.news_of_block (cs := #[.int .i64 f.kind, .int .i64 f.slot, .int .i64 f.bit, .int .i64 f.mask, .int .i64 f.dest]) (fr := (0, 0)) (heap_alloc_new w3 _)⟩⟩) (by simp [Flt.cells, Value.oneCell']) (by have := HN.out; unfold maxLen; omega) (by have := HN.out; omega) ?_; intro v4 w4 hown4 hgrow4; obtain ⟨A4, cap4, rfl, hc4⟩ := hown4.form; have hal3 := Nat.lt_of_lt_of_le hal2 HW3.out.size; have hna : ¬ New w2 a := Nat.not_le.2 hal2; have g6 := (hgrow4.cell_far ⟨a, 5, none⟩ (by first | exact hal3 | exact Nat.lt_of_lt_of_le hal3 (by simp)) hna).trans (by first | exact g5 | exact (World.cell?_alloc_lt w3 _ ⟨a, 5, none⟩ hal3).trans g5); have gf6 := (hgrow4.frozen_far ⟨a, 5, none⟩ (by first | exact hal3 | exact Nat.lt_of_lt_of_le hal3 (by simp)) hna).trans (by first | exact gf5 | exact (((Below.refl w3.heap.size w3).alloc (Nat.le_refl _) _).frozen (p := ⟨a, 5, none⟩) hal3).trans gf5); have HB4 := hid (show Below w2.heap.size w2 w4 by first | exact HW3.out.trans (hgrow4.below (fun _ e => e) HW3.out.size) | exact (HW3.out.alloc HW3.out.size _).trans (hgrow4.below (fun _ e => e) (Nat.le_trans HW3.out.size (by simp)))); have HO4 := hid ((OwnSl.mono (o2 := New w2) hown4 (fun x e => e.elim (fun e => e) (fun e => by first | exact Nat.le_trans HW3.out.size e.1 | exact Nat.le_trans (Nat.le_trans HW3.out.size (by simp)) e.1))).tight); clear hown4 hgrow4 hal3 hna))
    all_goals
      have ho5 : OwnSl w4 (Grow NoOwn w2 w4) 5 (.slice A4 (R.pend.length + 1) cap4) (R.pend ++ [f]).length (fltCells (R.pend ++ [f])) := by
        rw [List.length_append, fltCells_snoc]
        exact HO4.out.mono (fun x e => .inr e)
      have HE := hid (DrvB.repend H2.out HF.out HU.out (Fr.ofBelow HB4.out) (q := R.pend ++ [f]) ho5)
      clear ho5 g5 gf5 g6 gf6 HO4 HB4 HO3 HW3
      go_wp2
      go_ret
      refine ⟨rfl, ?_, HE.out.2⟩
      rw [HT2.out]
      exact ⟨_, ⟨_, _, _, _, HE.out.1⟩, ⟨HR.out.claim, HR.out.on, HR.out.dead, HR.out.term, by show R.pend ++ [f] = S.pend ++ [f]; rw [HR.out.pend], HR.out.len, HR.out.secs⟩⟩
  · have hT : T = S.put f.slot { S.get f.slot with un := true } := by rw [← HT.out]; unfold Dv.happen; simp [hk]
    have HT2 := hid hT
    clear hT
    have hs0 := valid_media HV.out hk
    have e1 : (f.kind == 1) = false := by rw [beq_eq_false_iff_ne]; omega
    have e2 : (f.kind == 2) = false := by rw [beq_eq_false_iff_ne]; omega
    have e3 : (f.kind == 3) = false := by rw [beq_eq_false_iff_ne]; omega
    have e4 : (f.kind == 4) = false := by rw [beq_eq_false_iff_ne]; omega
    have e5 : (f.kind == 5) = false := by rw [beq_eq_false_iff_ne]; omega
    have e6 : (f.kind == 6) = false := by rw [beq_eq_false_iff_ne]; omega
    have e7 := (beq_iff_eq (a := f.kind) (b := 7)).2 hk
    have HK := hid hk
    clear hk
    have hlt := HR.out.lt HS.out f.slot
    have y1 := H2.out.cells.2.1
    have y0 : (0 : Int) ≤ ((S.at_ f.slot : Nat) : Int) := by omega
    have y2 : ((S.at_ f.slot : Nat) : Int) < (R.secs.length : Int) := by omega
    have HAT := hid (fun W (hW : DrvB W o p a b c pv R) => at_any hW HR.out HS.out f.slot hs0)
    go_upto_region 19 with fail
    refine wp_region_quiet_tail 10 (fun w' => ∃ n, w' = w2.drewN n) ⟨1, rfl⟩ (by kernel_rfl) (by kernel_rfl) ?_
    simp only [List.take_succ_cons, List.take_zero, List.drop_succ_cons, List.drop_zero]
    repeat (go_big_quiet_step ((go_at_call 71; exact quiet_left (HAT.out _ (H2.out.drewN _)))))
    refine wpQuiet_nil ?_
    rintro _ ⟨n1, rfl⟩
    have hget : R.secs[S.at_ f.slot] = S.get f.slot := by
      rw [S.get_eq HS.out]
      congr 1
      exact HR.out.secs HD.out
    have hs4 := (H2.out.drewN n1).secs.poke (S.at_ f.slot) 1 (.bool true) { S.get f.slot with un := true } hlt (by omega) (by rw [hget]; rfl)
    have h4 := (H2.out.drewN n1).of_grown (grownBy_set (grownBy_refl _ _) _ _) _ (by simp) hs4
    have z1 := ((H2.out.drewN n1).secs.cells (S.at_ f.slot) hlt).2.1
    have zf := ((H2.out.drewN n1).secs.frees (S.at_ f.slot) hlt).2.1
    have H4 := hid h4
    have HF4 := hid ((HF.out.drewN n1).setCell ⟨b, S.at_ f.slot * 3 + 1, none⟩ (.bool true) (.inl H2.out.ob))
    clear h4 hs4 hget
    go_wp2
    go_ret
    refine ⟨rfl, ?_, HF4.out⟩
    rw [HT2.out]
    exact Ref.grow ⟨_, ⟨_, _, _, _, H4.out⟩, HR.out.put HD.out f.slot _⟩ HF4.out HU.out
theorem ref_inject {w : World} {o : Own} {a : Nat} {S : Dv} (h : Ref w o a S) (hS : S.Ok) (f : Flt) (hn : S.pend.length ≤ 1000000) :
    Calls Try.prog 63 #[.pointer (some ⟨a, 0, none⟩), f.val] w fun e w' => e = .returned (.int .i64 (S.inject f).1) ∧ Ref w' (Grow o w w') a (S.inject f).2 ∧ Fr o w w' := by
  obtain ⟨R, ⟨p, b, c, pv, h⟩, hr⟩ := h
  cases hv : Dv.valid S.claim f
  · exact ref_inject_no h hr f (.inl hv)
  · cases hd : S.dead
    · have : S.inject f = (0, S.happen f) := by unfold Dv.inject; rw [hv, hd]; rfl
      rw [this]
      exact ref_inject_yes h hr hS f hv hd hn
    · exact ref_inject_no h hr f (.inr hd)
end
end Go.Proofs.Ytegekmdechcikaa
