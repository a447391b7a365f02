/- Write of the reference's drive where faults are pending; Write, Erase. -/
import Derived.Test.YtegekmdechcikaaERefW
namespace Go.Proofs.Ytegekmdechcikaa
open Go Go.RowKit Go.Sort

theorem fltCells_one (l : List Flt) : ∀ u ∈ fltCells l, u.oneCell' = true := by
  intro u hu
  obtain ⟨f, _, hf⟩ := List.mem_flatMap.1 hu
  simp [Flt.cells] at hf
  rcases hf with rfl | rfl | rfl | rfl | rfl <;> rfl
section
variable {w : World} {o p : Own} {a b c : Nat} {pv : Value} {R S : Dv}
/-- The pending faults are replaced by a new row. -/
theorem DrvB.repend {w0 WA w3 : World} (h : DrvB WA o p a b c pv R) (hf0 : Fr o w0 WA) (hu : Under w0 o) (hg : Fr NoOwn WA w3) {v3 : Value} {q : List Flt}
    (ho : OwnSl w3 (Grow NoOwn WA w3) 5 v3 q.length (fltCells q)) :
    DrvB (w3.setCell ⟨a, 5, none⟩ v3) (Grow o w0 (w3.setCell ⟨a, 5, none⟩ v3)) (Grow NoOwn WA w3) a b c v3 { R with pend := q } ∧ Fr o w0 (w3.setCell ⟨a, 5, none⟩ v3) := by
  have hf3 : Fr o w0 w3 := hf0.trans (fun _ e => .inl e) (hg.mono fun _ e => e.elim)
  have hf4 : Fr o w0 (w3.setCell ⟨a, 5, none⟩ v3) := hf3.setCell _ _ (.inl h.oa)
  have ha : a < WA.heap.size := h.vals.lt
  have hb : b < WA.heap.size := h.secs.lt
  have npa : ¬ Grow NoOwn WA w3 a := fun e => by
    rcases e with e | e
    · exact e
    · omega
  have npb : ¬ Grow NoOwn WA w3 b := fun e => by
    rcases e with e | e
    · exact e
    · omega
  have hv := (h.vals.fr hg (fun e => e)).store 5 v3 (by simp)
  refine ⟨⟨hv, (h.secs.fr hg (fun e => e)).other _ _ (Ne.symm h.ne), h.ne, OwnSl.poke ho ⟨a, 5, none⟩ v3 npa, npa, npb, fun k e => ?_, .inl h.oa, .inl h.ob, hf4.under hu, h.cap⟩, hf4⟩
  rcases e with e | e
  · exact e.elim
  · have := hf0.size
    exact .inr ⟨by omega, by simp; omega⟩
set_option maxRecDepth 100000 in
set_option maxHeartbeats 2000000 in
theorem ref_cons (f : Flt) (r : List Flt) (h : DrvB w o p a b c pv R) (hr : Rel R S) (hS : S.Ok) (hp : S.pend = f :: r) (hn : S.pend.length ≤ 1000000) (t s : Int) (d : ByteArray) (ho : S.online = true) (ht : ¬ t < S.term) (h0 : 0 ≤ s) (h1 : s < S.claim) (hd : d.size = 36) :
    Calls Try.prog 54 #[.pointer (some ⟨a, 0, none⟩), .int .i64 t, .int .i64 s, .string d] w fun e w' => e = .returned (.int .i64 0) ∧ Ref w' (Grow o w w') a (Dv.store { S with term := t } s d) ∧ Fr o w w' := by
  obtain ⟨c0, c1, c2, c3, c4, c5⟩ := h.cells
  rw [hr.claim] at c0
  rw [hr.on, ho] at c2
  rw [hr.term] at c4
  have f4 := h.free 4 (by omega)
  have hfit := hS.pend f (by rw [hp]; exact List.mem_cons_self)
  have hstore : Dv.store { S with term := t } s d = if f.kind = 5 then { S with term := t, pend := r } else Dv.put { S with term := t, pend := r } f.dest ⟨d, false, false⟩ := by unfold Dv.store; rw [hp]
  have HST := hid hstore
  have hpv := h.pend
  rw [hr.pend, hp] at hpv
  rw [hp] at hn
  obtain ⟨g, off, cap, rfl, hog, hgl, hnc, hcm, _, _⟩ := hpv.some_ (by simp)
  have HH := hid h
  have HS := hid hS
  have HR := hid hr
  have HP := hid hp
  have HDL := hid (online_live ho)
  obtain ⟨i0, hi0, hz0, hz1, hz2⟩ := info_parts Try.info_flt
  clear h hS hr hpv hstore hp ho c3
  go_enter Try.func54, Try.ntmps54
  go_upto_region 10 with fail
  have hq1 := HH.out.term t
  have hk1 : Fr o w (w.setCell ⟨a, 4, none⟩ (.int .i64 t)) := (Fr.refl o w).setCell _ _ (.inl HH.out.oa)
  generalize w.setCell ⟨a, 4, none⟩ (.int .i64 t) = w1 at hq1 hk1 ⊢
  obtain ⟨d0, d1, d2, d3, d4, c5⟩ := hq1.cells
  have hpv := hq1.pend
  dsimp only at hpv
  rw [HR.out.pend, HP.out] at hpv
  obtain ⟨g0, g1, g2, g3, g4⟩ := hpv.head
  have HPV := hid hpv
  have H1 := hid hq1
  have HK := hid hk1
  clear hpv hq1 hk1 c0 c1 c2 c4 f4 d0 d1 d2 d3 d4
  go_upto_region 12 with (fail)
  have hb2 : Below w1.heap.size w1 (w1.alloc (fltObj f)) := (Below.refl _ _).alloc (Nat.le_refl _) _
  have hgq := fault_block (f := f) w1
  have hqa : (a : Nat) ≠ w1.heap.size := by have := H1.out.vals.lt; omega
  have h2 := H1.out.below hb2
  have hk2 := HK.out.thenBelow hb2
  have hpv2 := HPV.out.below hb2
  clear g0 g1 g2 g3 g4 c5 H1 HK HPV
  generalize w1.alloc (.cells #[.int .i64 f.kind, .int .i64 f.slot, .int .i64 f.bit, .int .i64 f.mask, .int .i64 f.dest] 43) = w2 at hb2 hgq h2 hk2 hpv2 ⊢
  generalize w1.heap.size = q at hgq hqa hb2 ⊢
  clear hb2
  have c5 := h2.cells.2.2.2.2.2
  have f5 := h2.free 5 (by omega)
  have hal := h2.vals.lt
  have hql : q < w2.heap.size := (Array.getElem?_eq_some_iff.1 hgq).1
  have hcap : 1 ≤ cap := by simp at hnc; omega
  have HSRC := hid ((OwnSl.tail hpv2).src)
  have HQ := hid hgq
  have H2 := hid h2
  have HK2 := hid hk2
  have hrn : r.length ≤ 1000000 := by simp at hn; omega
  clear h2 hk2 hpv2 hgq hn
  go_wp2_with (at_builtin; refine wpList_append_sl (by rfl) (.const (.slice none 0 0)) (.tmp 59) 65 (by rfl) 43 i0 _ 5 40 Try.underlying65 hi0 hz0 hz1 hz2 rfl (by decide) NoOwn (.slice none 0 0) (.slice (if cap = 1 then some ⟨g, off, none⟩ else some ⟨g, off + 5, none⟩) r.length (cap - 1)) 0 r.length [] (fltCells r) (by rfl) (by rfl) (OwnSl.nil _ _ _) HSRC.out (fltCells_one r) (by unfold maxLen; omega) (by omega) ?_)
  all_goals
    intro v3 w3 hown3 hgrow
    obtain ⟨A3, cap3, rfl, hc3⟩ := hown3.form
    have g5 := (hgrow.cell_far ⟨a, 5, none⟩ hal (fun e => e)).trans c5
    have gf5 := (hgrow.frozen_far ⟨a, 5, none⟩ hal (fun e => e)).trans f5
    have hrp := DrvB.repend (R := { R with term := t }) H2.out HK2.out HH.out.un hgrow (q := r) hown3
    have hq3 : (w3.setCell ⟨a, 5, none⟩ (.slice A3 r.length cap3)).heap[q]? = some (.cells #[.int .i64 f.kind, .int .i64 f.slot, .int .i64 f.bit, .int .i64 f.mask, .int .i64 f.dest] 43 (0, 0)) :=
      (Below.heap_setCell w3 _ _ q (Ne.symm hqa)).trans ((hgrow.block q hql (fun e => e)).trans HQ.out)
    have H3 := hid hrp
    have HQ3 := hid hq3
    clear hown3 hgrow hrp hq3
    go_upto_region 13 with (fail)
    have HZ := hid (show w.heap.size ≤ w3.heap.size from by have := H3.out.2.size; simpa using this)
    generalize w3.setCell ⟨a, 5, none⟩ (.slice A3 r.length cap3) = w4 at H3 HQ3 ⊢
    have k0 : w4.cell? ⟨q, 0, none⟩ = some (.int .i64 f.kind) := cell_block HQ3.out 0
    have k4 : w4.cell? ⟨q, 4, none⟩ = some (.int .i64 f.dest) := cell_block HQ3.out 4
    have hrel : Rel { R with term := t, pend := r } { S with term := t, pend := r } := HR.out.sameBut t r
    have HREL := hid hrel
    clear hrel g5 gf5
    by_cases h5 : f.kind = 5
    · go_wp2
      go_ret
      refine ⟨rfl, ?_, H3.out.2⟩
      rw [HST.out, if_pos h5]
      exact ⟨_, ⟨_, _, _, _, H3.out.1⟩, HREL.out⟩
    · have hf0 : 0 ≤ f.dest := by omega
      have hS3 : Dv.Ok { S with term := t, pend := r } := HS.out.same rfl rfl (fun x hx => by rw [HP.out]; exact List.mem_cons_of_mem _ hx)
      have hlt := HR.out.lt HS.out f.dest
      have hx0 : (0 : Int) ≤ ((S.at_ f.dest : Nat) : Int) := by omega
      have hx1 : ((S.at_ f.dest : Nat) : Int) < (R.secs.length : Int) := by omega
      have HAT := hid (fun W (hW : DrvB W (Grow o w w4) (Grow NoOwn w2 w3) a b c (.slice A3 r.length cap3) { R with term := t, pend := r }) => show Calls Try.prog 71 #[.pointer (some ⟨a, 0, none⟩), .int .i64 f.dest] W fun e w' => e = .returned (.int .i64 ((S.at_ f.dest : Nat) : Int)) ∧ W = w' from at_any hW HREL.out hS3 f.dest hf0)
      have d1 := H3.out.1.cells.2.1
      dsimp only at d1
      clear hS3
      go_upto_region 16 with fail
      refine wp_region_quiet_tail 10 (fun w' => ∃ n, w' = w4.drewN n) ⟨1, rfl⟩ (by kernel_rfl) (by kernel_rfl) ?_
      simp only [List.take_succ_cons, List.take_zero, List.drop_succ_cons, List.drop_zero]
      repeat (go_big_quiet_step ((go_at_call 71; exact quiet_left (HAT.out _ (H3.out.1.drewN _)))))
      refine wpQuiet_nil ?_
      rintro _ ⟨nq, rfl⟩
      have hth := (H3.out.1.drewN nq).secs.free (S.at_ f.dest) hlt
      go_wp2_with (refine wpList_store_mid rfl 117 (.tmp 77) (.tmp 76) rfl b (S.at_ f.dest * 3) #[.string d, .bool false, .bool false] rfl rfl hth rsec_size (sec_one _ _ _) ?_)
      go_ret
      have hfin := (H3.out.1.drewN nq).write (S.at_ f.dest) ⟨d, false, false⟩ hlt
      have hfr : Fr o w ((w4.drewN nq).setCells b (S.at_ f.dest * 3) (Sec.cells ⟨d, false, false⟩)) := Fr.setCells (.inl HH.out.ob) _ _ _ (H3.out.2.drewN nq)
      refine ⟨rfl, ?_, hfr⟩
      rw [HST.out, if_neg h5]
      have hsz : ((w4.drewN nq).setCells b (S.at_ f.dest * 3) [.string d, .bool false, .bool false]).heap.size = w4.heap.size := size_setCells _ _ _ _
      have hgr : Grow o w ((w4.drewN nq).setCells b (S.at_ f.dest * 3) [.string d, .bool false, .bool false]) = Grow o w w4 := by unfold Grow; rw [hsz]
      rw [hgr]
      exact ⟨_, ⟨_, _, _, _, hfin⟩, HREL.out.put HDL.out f.dest _⟩
theorem ref_write {w : World} {o : Own} {a : Nat} {S : Dv} (h : Ref w o a S) (hS : S.Ok) (hn : S.pend.length ≤ 1000000) (t s : Int) (d : ByteArray) :
    Calls Try.prog 54 #[.pointer (some ⟨a, 0, none⟩), .int .i64 t, .int .i64 s, .string d] w fun e w' => e = .returned (.int .i64 (S.write t s d).1) ∧ Ref w' (Grow o w w') a (S.write t s d).2 ∧ Fr o w w' := by
  obtain ⟨R, ⟨p, b, c, pv, h⟩, hr⟩ := h
  by_cases hno : S.online = false ∨ t < S.term ∨ S.slot s = false ∨ d.size ≠ 36
  · exact ref_no h hr t s d hno
  · have ho : S.online = true := by
      cases hh : S.online
      · exact absurd (.inl hh) hno
      · rfl
    have hsl : S.slot s = true := by
      cases hh : S.slot s
      · exact absurd (.inr (.inr (.inl hh))) hno
      · rfl
    have ht : ¬ t < S.term := fun e => hno (.inr (.inl e))
    have hd : d.size = 36 := by
      by_cases e : d.size = 36
      · exact e
      · exact absurd (.inr (.inr (.inr e))) hno
    have hs : 0 ≤ s ∧ s < S.claim := by unfold Dv.slot at hsl; rwa [decide_eq_true_eq] at hsl
    have hw : S.write t s d = (0, Dv.store { S with term := t } s d) := by
      unfold Dv.write
      rw [if_neg (by simp [ho]), if_neg ht, if_neg (by simp [hsl]), if_neg (by simp [hd])]
    rw [hw]
    obtain hp | ⟨f, r, hp⟩ : S.pend = [] ∨ ∃ f r, S.pend = f :: r := by
      cases S.pend
      · exact .inl rfl
      · exact .inr ⟨_, _, rfl⟩
    · exact ref_nil h hr hS hp t s d ho ht hs.1 hs.2 hd
    · exact ref_cons f r h hr hS hp hn t s d ho ht hs.1 hs.2 hd
set_option maxHeartbeats 400000 in
theorem ref_erase {w : World} {o : Own} {a : Nat} {S : Dv} (h : Ref w o a S) (hS : S.Ok) (hn : S.pend.length ≤ 1000000) (t s : Int) :
    Calls Try.prog 57 #[.pointer (some ⟨a, 0, none⟩), .int .i64 t, .int .i64 s] w fun e w' => e = .returned (.int .i64 (S.write t s blank).1) ∧ Ref w' (Grow o w w') a (S.write t s blank).2 ∧ Fr o w w' := by
  have HH := hid h
  have HS := hid hS
  have HN := hid hn
  clear h hS hn
  go_enter Try.func57, Try.ntmps57
  go_wp2_with fail
  refine (blank_b _).mono ?_
  rintro e w1 ⟨rfl, hb1⟩
  have H1 := hid (HH.out.below hb1)
  have HK := hid (Fr.ofBelow (o := o) hb1)
  clear hb1
  go_wp2_with fail
  refine (ref_write H1.out HS.out HN.out t s blank).mono ?_
  rintro e w2 ⟨rfl, hd2, hk2⟩
  have hk3 := HK.out.trans (fun _ e => .inl e) hk2
  have hd3 : Ref w2 (Grow o w w2) a (S.write t s blank).2 := by
    obtain ⟨R, ⟨p, b, c, pv, hd⟩, hr⟩ := hd2
    exact ⟨R, ⟨p, b, c, pv, hd.mono (fun k e => by
      rcases e with e | e
      · exact .inl e
      · exact .inr ⟨Nat.le_trans HK.out.size e.1, e.2⟩) (hk3.under HH.out.under)⟩, hr⟩
  have HD := hid hd3
  have HK3 := hid hk3
  clear hd2 hk2 hd3 hk3
  go_wp2
  go_ret
  exact ⟨rfl, HD.out, HK3.out⟩
end
end Go.Proofs.Ytegekmdechcikaa
