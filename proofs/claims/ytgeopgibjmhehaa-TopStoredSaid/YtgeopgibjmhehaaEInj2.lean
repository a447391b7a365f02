/- Inject. -/
import Derived.Test.YtgeopgibjmhehaaTE
namespace Go.Proofs.Ytgeopgibjmhehaa
open Go Go.RowKit Go.Sort

theorem valid_kind {S : Dv} {f : Flt} (h : Dv.valid S.claim f = true) : f.kind = 1 ∨ f.kind = 2 ∨ f.kind = 3 ∨ f.kind = 4 ∨ f.kind = 5 ∨ f.kind = 6 ∨ f.kind = 7 := by
  unfold Dv.valid at h
  by_cases h1 : f.kind = 1 ∨ f.kind = 2 ∨ f.kind = 3 ∨ f.kind = 5
  · omega
  · rw [if_neg h1] at h
    by_cases h7 : f.kind = 7
    · omega
    · rw [if_neg h7] at h
      by_cases h4 : f.kind = 4
      · omega
      · rw [if_neg h4] at h
        by_cases h6 : f.kind = 6
        · omega
        · rw [if_neg h6] at h; cases h
theorem valid_flip {c : Int} {f : Flt} (h : Dv.valid c f = true) (hk : f.kind = 4) : 0 ≤ f.slot ∧ 0 ≤ f.bit ∧ f.bit < 288 ∧ 1 ≤ f.mask ∧ f.mask ≤ 4294967295 := by
  unfold Dv.valid at h
  rw [if_neg (by omega), if_neg (by omega), if_pos hk, decide_eq_true_eq] at h
  omega
theorem valid_media {c : Int} {f : Flt} (h : Dv.valid c f = true) (hk : f.kind = 7) : 0 ≤ f.slot := by
  unfold Dv.valid at h
  rw [if_neg (by omega), if_pos hk, decide_eq_true_eq] at h
  omega
theorem quiet_more {P : Program} {f : FuncId} {args : Array Value} {w : World} {n : Nat} {v : Value}
    (h : Calls P f args (w.drewN n) fun e w' => e = .returned v ∧ ∃ m, w' = (w.drewN n).drewN m) : Calls P f args (w.drewN n) fun e w'' => e = .returned v ∧ ∃ m, w'' = w.drewN m :=
  h.mono fun _ _ ⟨he, m, hm⟩ => ⟨he, n + m, by rw [hm, World.drewN_drewN]⟩
theorem Fr.cell_far {o : Own} {w w' : World} (h : Fr o w w') (a : Addr) (hlt : a.block < w.heap.size) (hn : ¬ o a.block) : w'.cell? a = w.cell? a := World.cell?_of_block (h.block a.block hlt hn)
theorem Fr.frozen_far {o : Own} {w w' : World} (h : Fr o w w') (a : Addr) (hlt : a.block < w.heap.size) (hn : ¬ o a.block) : w'.frozen? a = w.frozen? a := World.frozen?_of_block (h.block a.block hlt hn)
theorem DrvB.of_grown {w w' : World} {o p : Own} {a b c : Nat} {pv : Value} {S : Dv} (h : DrvB w o p a b c pv S) (hg : w.grownBy w' (some b)) (l : List Sec) (hl : l.length = S.secs.length) (hs : SecsAt w' b l) : DrvB w' o p a b c pv { S with secs := l } :=
  ⟨by rw [show ({ S with secs := l } : Dv).secs.length = S.secs.length from hl]; exact h.vals.grown hg h.ne, hs, h.ne, h.pend.fr (o2 := fun k => k = b) (.of_grown hg (fun k e => (Option.some.inj e).symm)) (fun k x e => h.pb (e ▸ x)), h.pa, h.pb, h.po, h.oa, h.ob, h.un.mv hg.size, by rw [show ({ S with secs := l } : Dv).secs.length = S.secs.length from hl]; exact h.cap⟩
theorem fltCells_snoc (l : List Flt) (f : Flt) : fltCells (l ++ [f]) = fltCells l ++ f.cells := by simp [fltCells]
/-- A fault was appended to the pending ones. -/
theorem DrvB.appended {w0 WA w3 : World} {o p : Own} {a b c : Nat} {pv : Value} {S : Dv} (h : DrvB WA o p a b c pv S) (hf0 : Fr o w0 WA) (hu : Under w0 o) (hg : Fr p WA w3) (f : Flt) {v3 : Value}
    (ho : OwnSl w3 (Grow p WA w3) 5 v3 (S.pend.length + 1) (fltCells S.pend ++ f.cells)) :
    Drv (w3.setCell ⟨a, 5, none⟩ v3) (Grow o w0 (w3.setCell ⟨a, 5, none⟩ v3)) a { S with pend := S.pend ++ [f] } ∧ Fr o w0 (w3.setCell ⟨a, 5, none⟩ v3) := by
  have hf3 : Fr o w0 w3 := hf0.trans (fun _ e => .inl e) (hg.mono h.po)
  have hf4 : Fr o w0 (w3.setCell ⟨a, 5, none⟩ v3) := hf3.setCell _ _ (.inl h.oa)
  have ha : a < WA.heap.size := h.vals.lt
  have hb : b < WA.heap.size := h.secs.lt
  have npa : ¬ Grow p WA w3 a := fun e => by
    rcases e with e | e
    · exact h.pa e
    · omega
  have npb : ¬ Grow p WA w3 b := fun e => by
    rcases e with e | e
    · exact h.pb e
    · omega
  have hv := (h.vals.fr hg h.pa).store 5 v3 (by simp)
  have hpd := OwnSl.poke ho ⟨a, 5, none⟩ v3 npa
  refine ⟨⟨Grow p WA w3, b, c, v3, ⟨hv, (h.secs.fr hg h.pb).other _ _ (Ne.symm h.ne), h.ne, ?_, npa, npb, fun k e => ?_, .inl h.oa, .inl h.ob, hf4.under hu, h.cap⟩⟩, hf4⟩
  · rw [show ({ S with pend := S.pend ++ [f] } : Dv).pend = S.pend ++ [f] from rfl, fltCells_snoc, List.length_append]
    exact hpd
  · rcases e with e | e
    · exact .inl (h.po k e)
    · have := hf0.size
      exact .inr ⟨by omega, by simp; omega⟩
section
variable {w : World} {o p : Own} {a b c : Nat} {pv : Value} {S : Dv}
theorem DrvB.done (h : DrvB w o p a b c pv S) {w0 : World} (hf : Fr o w0 w) (hu : Under w0 o) : Drv w (Grow o w0 w) a S := ⟨p, b, c, pv, h.mono (fun _ e => .inl e) (hf.under hu)⟩
abbrev fltObj (f : Flt) : Obj := .cells #[.int .i64 f.kind, .int .i64 f.slot, .int .i64 f.bit, .int .i64 f.mask, .int .i64 f.dest] 42
/-- No fault, or a dead drive. -/
theorem inject_no (h : DrvB w o p a b c pv S) (hS : S.Ok) (f : Flt) (hno : Dv.valid S.claim f = false ∨ S.dead = true) :
    Calls Try.prog 11 #[.pointer (some ⟨a, 0, none⟩), f.val] w fun e w' => e = .returned (.int .i64 (S.inject f).1) ∧ Drv w' (Grow o w w') a (S.inject f).2 ∧ Fr o w w' := by
  have hb1 : Below w.heap.size w (w.alloc (fltObj f)) := (Below.refl _ _).alloc (Nat.le_refl _) _
  have HB := hid hb1
  have H1 := hid (h.below hb1)
  have HU := hid h.un
  have HS := hid hS
  clear h hb1 hS
  unfold Dv.inject
  cases hv : Dv.valid S.claim f
  · clear hno
    go_enter Try.func11, Try.ntmps11
    go_wp2_with fail
    refine (allowed_any H1.out f).mono ?_
    rintro e w2 ⟨rfl, hb2⟩
    rw [hv]
    have hf2 : Fr o w w2 := (Fr.ofBelow HB.out).thenBelow hb2
    have H2 := hid ((H1.out.below hb2).done hf2 HU.out)
    have HF := hid hf2
    clear hf2 hb2
    go_wp2
    go_ret
    exact ⟨by simp, by simpa using H2.out, HF.out⟩
  · have hd : S.dead = true := by
      rcases hno with h | h
      · rw [hv] at h; cases h
      · exact h
    clear hno
    have HD := hid hd
    clear hd
    go_enter Try.func11, Try.ntmps11
    go_wp2_with fail
    refine (allowed_any H1.out f).mono ?_
    rintro e w2 ⟨rfl, hb2⟩
    rw [hv]
    have hf2 : Fr o w w2 := (Fr.ofBelow HB.out).thenBelow hb2
    have H2 := hid (H1.out.below hb2)
    have HF := hid hf2
    clear hf2 hb2
    go_wp2_with (go_at_call 26; refine (gone_any H2.out HS.out).mono ?_; rintro e w' ⟨rfl, rfl⟩; rw [HD.out])
    go_ret
    exact ⟨by simp, by simpa using H2.out.done HF.out HU.out, HF.out⟩
theorem fault_block {f : Flt} (w : World) : (w.alloc (fltObj f)).heap[w.heap.size]? = some (.cells #[.int .i64 f.kind, .int .i64 f.slot, .int .i64 f.bit, .int .i64 f.mask, .int .i64 f.dest] 42 (0, 0)) := heap_alloc_new w _
set_option maxRecDepth 100000 in
set_option maxHeartbeats 2000000 in
theorem inject_yes (h : DrvB w o p a b c pv S) (hS : S.Ok) (f : Flt) (hv : Dv.valid S.claim f = true) (hd : S.dead = false) (hn : S.pend.length ≤ 1000000) :
    Calls Try.prog 11 #[.pointer (some ⟨a, 0, none⟩), f.val] w fun e w' => e = .returned (.int .i64 0) ∧ Drv w' (Grow o w w') a (S.happen f) ∧ Fr o w w' := by
  have hb1 : Below w.heap.size w (w.alloc (fltObj f)) := (Below.refl _ _).alloc (Nat.le_refl _) _
  have hq := fault_block (f := f) w
  have hqa : a ≠ w.heap.size ∧ b ≠ w.heap.size := by have := h.vals.lt; have := h.secs.lt; omega
  have HQ := hid hq
  have HB := hid hb1
  have H1 := hid (h.below hb1)
  have HU := hid h.un
  have HS := hid hS
  clear h hb1 hS
  clear hq
  have hk := valid_kind hv
  have HV := hid hv
  have HD := hid hd
  clear hv hd
  generalize hT : S.happen f = T
  have HT := hid hT
  clear hT
  go_enter Try.func11, Try.ntmps11
  go_wp2_with fail
  refine (allowed_any H1.out f).mono ?_
  rintro e w2 ⟨rfl, hb2⟩
  rw [HV.out]
  have hq2 : w2.heap[w.heap.size]? = some (.cells #[.int .i64 f.kind, .int .i64 f.slot, .int .i64 f.bit, .int .i64 f.mask, .int .i64 f.dest] 42 (0, 0)) := (hb2.block _ (by simp)).trans HQ.out
  have hf2 : Fr o w w2 := (Fr.ofBelow HB.out).thenBelow hb2
  have H2 := hid (H1.out.below hb2)
  have HF := hid hf2
  have hqs : w.heap.size < w2.heap.size := by have := hb2.size; simp at this; omega
  clear hf2 hb2 H1 HB HQ
  generalize hqg : w.heap.size = q at hq2 hqa hqs ⊢
  have HQG := hid hqg
  clear hqg
  go_wp2_with fail
  refine (gone_any H2.out HS.out).mono ?_
  rintro e w' ⟨rfl, rfl⟩
  rw [HD.out]
  have k0 := cell_block hq2 0
  have k1 := cell_block hq2 1
  have k2 := cell_block hq2 2
  have k3 := cell_block hq2 3
  have k4 := cell_block hq2 4
  simp only [List.getElem?_toArray, List.getElem?_cons_zero, List.getElem?_cons_succ] at k0 k1 k2 k3 k4
  have HQ2 := hid hq2
  clear hq2
  have ht : (∀ g, f.kind = g → f.kind = g) := fun _ h => h
  clear ht
  rcases hk with hk | hk | hk | hk | hk | hk | hk
  · have hT : T = { S with off := true } := by rw [← HT.out]; unfold Dv.happen; simp [hk]
    have HT2 := hid hT
    clear hT
    have e1 := (beq_iff_eq (a := f.kind) (b := 1)).2 hk
    have e2 : (f.kind == 2) = false := by rw [beq_eq_false_iff_ne]; omega
    have e3 : (f.kind == 3) = false := by rw [beq_eq_false_iff_ne]; omega
    have e4 : (f.kind == 4) = false := by rw [beq_eq_false_iff_ne]; omega
    have e5 : (f.kind == 5) = false := by rw [beq_eq_false_iff_ne]; omega
    have e6 : (f.kind == 6) = false := by rw [beq_eq_false_iff_ne]; omega
    have e7 : (f.kind == 7) = false := by rw [beq_eq_false_iff_ne]; omega
    have HK := hid hk
    clear hk
    have c2 := H2.out.cells.2.2.1
    have f2 := H2.out.free 2 (by omega)
    go_wp2
    go_ret
    exact ⟨rfl, by rw [HT2.out]; exact (H2.out.offTo true).done (HF.out.setCell _ _ (.inl H2.out.oa)) HU.out, HF.out.setCell _ _ (.inl H2.out.oa)⟩
  · have hT : T = { S with off := false } := by rw [← HT.out]; unfold Dv.happen; simp [hk]
    have HT2 := hid hT
    clear hT
    have e1 : (f.kind == 1) = false := by rw [beq_eq_false_iff_ne]; omega
    have e2 := (beq_iff_eq (a := f.kind) (b := 2)).2 hk
    have e3 : (f.kind == 3) = false := by rw [beq_eq_false_iff_ne]; omega
    have e4 : (f.kind == 4) = false := by rw [beq_eq_false_iff_ne]; omega
    have e5 : (f.kind == 5) = false := by rw [beq_eq_false_iff_ne]; omega
    have e6 : (f.kind == 6) = false := by rw [beq_eq_false_iff_ne]; omega
    have e7 : (f.kind == 7) = false := by rw [beq_eq_false_iff_ne]; omega
    have HK := hid hk
    clear hk
    have c2 := H2.out.cells.2.2.1
    have f2 := H2.out.free 2 (by omega)
    go_wp2
    go_ret
    exact ⟨rfl, by rw [HT2.out]; exact (H2.out.offTo false).done (HF.out.setCell _ _ (.inl H2.out.oa)) HU.out, HF.out.setCell _ _ (.inl H2.out.oa)⟩
  · have hT : T = S.die := by rw [← HT.out]; unfold Dv.happen; simp [hk]
    have HT2 := hid hT
    clear hT
    have e1 : (f.kind == 1) = false := by rw [beq_eq_false_iff_ne]; omega
    have e2 : (f.kind == 2) = false := by rw [beq_eq_false_iff_ne]; omega
    have e3 := (beq_iff_eq (a := f.kind) (b := 3)).2 hk
    have e4 : (f.kind == 4) = false := by rw [beq_eq_false_iff_ne]; omega
    have e5 : (f.kind == 5) = false := by rw [beq_eq_false_iff_ne]; omega
    have e6 : (f.kind == 6) = false := by rw [beq_eq_false_iff_ne]; omega
    have e7 : (f.kind == 7) = false := by rw [beq_eq_false_iff_ne]; omega
    have HK := hid hk
    clear hk
    obtain ⟨c0, c1, c2, c3, c4, c5⟩ := H2.out.cells
    have f3 := H2.out.free 3 (by omega)
    have f5 := H2.out.free 5 (by omega)
    have f2 := H2.out.free 2 (by omega)
    go_upto_region 14 with fail
    have h3 := (H2.out.deadTo true).poke 5 (.slice none 0 0) (by omega) (S' := { S with dead := true, pend := [] }) (pv' := .slice none 0 0) (p' := NoOwn) rfl rfl (OwnSl.nil _ _ _) (fun e => e) (fun e => e) (fun _ e => e.elim)
    have hf3 := (HF.out.setCell ⟨a, 3, none⟩ (.bool true) (.inl H2.out.oa)).setCell ⟨a, 5, none⟩ (.slice none 0 0) (.inl H2.out.oa)
    clear c0 c1 c2 c3 c4 c5 f2 f3 f5
    generalize (w2.setCell ⟨a, 3, none⟩ (.bool true)).setCell ⟨a, 5, none⟩ (.slice none 0 0) = w3 at h3 hf3 ⊢
    have H3 := hid h3
    have HF3 := hid hf3
    clear h3 hf3
    go_wp2_with fail
    refine (wipe_c a b S.secs.length c S.secs w3 rfl (by have := HS.out.le; have := HS.out.top; omega) H3.out.cap.1 H3.out.cells.2.1 H3.out.secs H3.out.vals.lt H3.out.ne).mono ?_
    rintro e w4 ⟨rfl, hs4, hg4⟩
    have h4 := H3.out.of_grown hg4 _ (by simp) hs4
    have hf4 : Fr o w w4 := HF3.out.trans (fun _ e => .inl e) (.of_grown hg4 (fun k e => (Option.some.inj e) ▸ H3.out.ob))
    have c2 := h4.cells.2.2.1
    have f2 := h4.free 2 (by omega)
    have H4 := hid h4
    have HF4 := hid hf4
    clear h4 hf4 hs4 hg4
    go_wp2
    go_ret
    exact ⟨rfl, by rw [HT2.out]; exact (H4.out.offTo true).done (HF4.out.setCell _ _ (.inl H4.out.oa)) HU.out, HF4.out.setCell _ _ (.inl H4.out.oa)⟩
  · have hT : T = S.put f.slot ((S.get f.slot).flip f.bit f.mask) := by rw [← HT.out]; unfold Dv.happen; simp [hk]
    have HT2 := hid hT
    clear hT
    have hr := valid_flip HV.out hk
    have e1 : (f.kind == 1) = false := by rw [beq_eq_false_iff_ne]; omega
    have e2 : (f.kind == 2) = false := by rw [beq_eq_false_iff_ne]; omega
    have e3 : (f.kind == 3) = false := by rw [beq_eq_false_iff_ne]; omega
    have e4 := (beq_iff_eq (a := f.kind) (b := 4)).2 hk
    have e5 : (f.kind == 5) = false := by rw [beq_eq_false_iff_ne]; omega
    have e6 : (f.kind == 6) = false := by rw [beq_eq_false_iff_ne]; omega
    have e7 : (f.kind == 7) = false := by rw [beq_eq_false_iff_ne]; omega
    have HK := hid hk
    clear hk
    obtain ⟨hs0, hb0, hb1, hm0, hm1⟩ := hr
    obtain ⟨bn, hbn⟩ := Int.eq_ofNat_of_zero_le hb0
    obtain ⟨m, hm⟩ : ∃ m : BitVec 32, f.mask = (m.toNat : Int) := ⟨BitVec.ofInt 32 f.mask, by rw [BitVec.toNat_ofInt]; omega⟩
    have hbn2 : bn < 288 := by omega
    rw [hbn] at k2
    rw [hm] at k3
    have HBN := hid hbn
    have HM := hid hm
    clear hbn hm hb0 hb1 hm0 hm1
    go_upto_region 17 with fail
    have hqd : ∀ n, (w2.drewN n).cell? ⟨q, 1, none⟩ = some (.int .i64 f.slot) ∧ (w2.drewN n).cell? ⟨q, 2, none⟩ = some (.int .i64 bn) ∧ (w2.drewN n).cell? ⟨q, 3, none⟩ = some (.int .i64 (m.toNat : Int)) := fun n => ⟨k1, k2, k3⟩
    refine wp_region_quiet_tail 8 (fun w' => ∃ n, w' = w2.drewN n) ⟨1, rfl⟩ (by kernel_rfl) (by kernel_rfl) ?_
    simp only [List.take_succ_cons, List.take_zero, List.drop_succ_cons, List.drop_zero]
    repeat (go_big_quiet_step ((go_at_call 24; exact quiet_more (cell_any (H2.out.drewN _) HS.out f.slot hs0))))
    refine wpQuiet_nil ?_
    rintro _ ⟨nq, rfl⟩
    go_wp2_with fail
    have hk := S.at_lt HS.out f.slot
    refine (flip_cell b (S.at_ f.slot) S.secs bn m (w2.drewN nq) (H2.out.drewN nq).secs hk (HS.out.data _ (List.getElem_mem hk)) hbn2).mono ?_
    rintro e w4 ⟨rfl, hs4, hg4⟩
    have h4 := (H2.out.drewN nq).of_grown hg4 _ (by simp) hs4
    have hf4 : Fr o w w4 := (HF.out.drewN nq).trans (fun _ e => .inl e) (.of_grown hg4 (fun k e => (Option.some.inj e) ▸ H2.out.ob))
    have H4 := hid h4
    have HF4 := hid hf4
    clear h4 hf4 hs4 hg4
    go_wp2
    go_ret
    refine ⟨rfl, ?_, HF4.out⟩
    rw [HT2.out, HBN.out, HM.out, S.get_eq HS.out]
    exact H4.out.done HF4.out HU.out
  · have hT : T = { S with pend := S.pend ++ [f] } := by rw [← HT.out]; unfold Dv.happen; simp [hk]
    have HT2 := hid hT
    clear hT
    have e1 : (f.kind == 1) = false := by rw [beq_eq_false_iff_ne]; omega
    have e2 : (f.kind == 2) = false := by rw [beq_eq_false_iff_ne]; omega
    have e3 : (f.kind == 3) = false := by rw [beq_eq_false_iff_ne]; omega
    have e4 : (f.kind == 4) = false := by rw [beq_eq_false_iff_ne]; omega
    have e5 := (beq_iff_eq (a := f.kind) (b := 5)).2 hk
    have e6 : (f.kind == 6) = false := by rw [beq_eq_false_iff_ne]; omega
    have e7 : (f.kind == 7) = false := by rw [beq_eq_false_iff_ne]; omega
    have HK := hid hk
    clear hk
    have c5 := H2.out.cells.2.2.2.2.2
    have f5 := H2.out.free 5 (by omega)
    have hal := H2.out.vals.lt
    obtain ⟨i0, hi0, hz0, hz1, hz2⟩ := info_parts Try.info_flt
    have hbA : Below w2.heap.size w2 (w2.alloc (fltObj f)).drew := ((Below.refl _ _).alloc (Nat.le_refl _) _).drew
    have HPA := hid (H2.out.pend.below hbA)
    have HBA := hid hbA
    have HSRC := hid (show Src (w2.alloc (fltObj f)).drew 5 (.slice (some ⟨w2.heap.size, 0, none⟩) 1 1) 1 f.cells from ⟨rfl, .inr ⟨_, 1, rfl, World.news_of_block (cs := #[.int .i64 f.kind, .int .i64 f.slot, .int .i64 f.bit, .int .i64 f.mask, .int .i64 f.dest]) (fr := (0, 0)) (heap_alloc_new w2 _)⟩⟩)
    have npq : ¬ p q := fun e => by have := HU.out q (H2.out.po q e); rw [HQG.out] at this; omega
    have HNP := hid npq
    have HN := hid hn
    have HSA := hid (show (w2.alloc (fltObj f)).drew.cell? ⟨a, 5, none⟩ = some pv ∧ (w2.alloc (fltObj f)).drew.frozen? ⟨a, 5, none⟩ = false ∧ (w2.alloc (fltObj f)).drew.cell? ⟨q, 0, none⟩ = some (.int .i64 f.kind) ∧ (w2.alloc (fltObj f)).drew.cell? ⟨q, 1, none⟩ = some (.int .i64 f.slot) ∧ (w2.alloc (fltObj f)).drew.cell? ⟨q, 2, none⟩ = some (.int .i64 f.bit) ∧ (w2.alloc (fltObj f)).drew.cell? ⟨q, 3, none⟩ = some (.int .i64 f.mask) ∧ (w2.alloc (fltObj f)).drew.cell? ⟨q, 4, none⟩ = some (.int .i64 f.dest) from
      ⟨(hbA.cell (p := ⟨a, 5, none⟩) hal).trans c5, (hbA.frozen (p := ⟨a, 5, none⟩) hal).trans f5, (hbA.cell (p := ⟨q, 0, none⟩) hqs).trans k0, (hbA.cell (p := ⟨q, 1, none⟩) hqs).trans k1, (hbA.cell (p := ⟨q, 2, none⟩) hqs).trans k2, (hbA.cell (p := ⟨q, 3, none⟩) hqs).trans k3, (hbA.cell (p := ⟨q, 4, none⟩) hqs).trans k4⟩)
    clear hbA npq hn
    go_upto_region 18 with fail
    go_region_law
      ((refine step_append_sl (by rfl) _ _ _ (by rfl) 42 i0 _ 5 40 Try.underlying62 hi0 hz0 hz1 hz2 rfl (by omega) p pv _ S.pend.length 1 (fltCells S.pend) f.cells (by rfl) (by rfl) HPA.out HSRC.out (by simp [Flt.cells, Value.oneCell']) (by have := HN.out; unfold maxLen; omega) (by have := HN.out; omega) ?_; intro v3 w3 hown3 hgrow; obtain ⟨A3, cap3, rfl, hc3⟩ := hown3.form; have g5 := (hgrow.cell_far ⟨a, 5, none⟩ (Nat.lt_of_lt_of_le hal HBA.out.size) H2.out.pa).trans HSA.out.1; have gf5 := (hgrow.frozen_far ⟨a, 5, none⟩ (Nat.lt_of_lt_of_le hal HBA.out.size) H2.out.pa).trans HSA.out.2.1))
    all_goals
      have HE := hid ((H2.out.below HBA.out).appended (HF.out.thenBelow HBA.out) HU.out hgrow f hown3)
      clear hgrow hown3 g5 gf5
      go_wp2
      go_ret
      exact ⟨rfl, by rw [HT2.out]; exact HE.out.1, HE.out.2⟩
  · have hT : T = { S with pend := S.pend ++ [f] } := by rw [← HT.out]; unfold Dv.happen; simp [hk]
    have HT2 := hid hT
    clear hT
    have e1 : (f.kind == 1) = false := by rw [beq_eq_false_iff_ne]; omega
    have e2 : (f.kind == 2) = false := by rw [beq_eq_false_iff_ne]; omega
    have e3 : (f.kind == 3) = false := by rw [beq_eq_false_iff_ne]; omega
    have e4 : (f.kind == 4) = false := by rw [beq_eq_false_iff_ne]; omega
    have e5 : (f.kind == 5) = false := by rw [beq_eq_false_iff_ne]; omega
    have e6 := (beq_iff_eq (a := f.kind) (b := 6)).2 hk
    have e7 : (f.kind == 7) = false := by rw [beq_eq_false_iff_ne]; omega
    have HK := hid hk
    clear hk
    have c5 := H2.out.cells.2.2.2.2.2
    have f5 := H2.out.free 5 (by omega)
    have hal := H2.out.vals.lt
    obtain ⟨i0, hi0, hz0, hz1, hz2⟩ := info_parts Try.info_flt
    have hbA : Below w2.heap.size w2 (w2.alloc (fltObj f)).drew := ((Below.refl _ _).alloc (Nat.le_refl _) _).drew
    have HPA := hid (H2.out.pend.below hbA)
    have HBA := hid hbA
    have HSRC := hid (show Src (w2.alloc (fltObj f)).drew 5 (.slice (some ⟨w2.heap.size, 0, none⟩) 1 1) 1 f.cells from ⟨rfl, .inr ⟨_, 1, rfl, World.news_of_block (cs := #[.int .i64 f.kind, .int .i64 f.slot, .int .i64 f.bit, .int .i64 f.mask, .int .i64 f.dest]) (fr := (0, 0)) (heap_alloc_new w2 _)⟩⟩)
    have npq : ¬ p q := fun e => by have := HU.out q (H2.out.po q e); rw [HQG.out] at this; omega
    have HNP := hid npq
    have HN := hid hn
    have HSA := hid (show (w2.alloc (fltObj f)).drew.cell? ⟨a, 5, none⟩ = some pv ∧ (w2.alloc (fltObj f)).drew.frozen? ⟨a, 5, none⟩ = false ∧ (w2.alloc (fltObj f)).drew.cell? ⟨q, 0, none⟩ = some (.int .i64 f.kind) ∧ (w2.alloc (fltObj f)).drew.cell? ⟨q, 1, none⟩ = some (.int .i64 f.slot) ∧ (w2.alloc (fltObj f)).drew.cell? ⟨q, 2, none⟩ = some (.int .i64 f.bit) ∧ (w2.alloc (fltObj f)).drew.cell? ⟨q, 3, none⟩ = some (.int .i64 f.mask) ∧ (w2.alloc (fltObj f)).drew.cell? ⟨q, 4, none⟩ = some (.int .i64 f.dest) from
      ⟨(hbA.cell (p := ⟨a, 5, none⟩) hal).trans c5, (hbA.frozen (p := ⟨a, 5, none⟩) hal).trans f5, (hbA.cell (p := ⟨q, 0, none⟩) hqs).trans k0, (hbA.cell (p := ⟨q, 1, none⟩) hqs).trans k1, (hbA.cell (p := ⟨q, 2, none⟩) hqs).trans k2, (hbA.cell (p := ⟨q, 3, none⟩) hqs).trans k3, (hbA.cell (p := ⟨q, 4, none⟩) hqs).trans k4⟩)
    clear hbA npq hn
    go_upto_region 18 with fail
    go_region_law
      ((refine step_append_sl (by rfl) _ _ _ (by rfl) 42 i0 _ 5 40 Try.underlying62 hi0 hz0 hz1 hz2 rfl (by omega) p pv _ S.pend.length 1 (fltCells S.pend) f.cells (by rfl) (by rfl) HPA.out HSRC.out (by simp [Flt.cells, Value.oneCell']) (by have := HN.out; unfold maxLen; omega) (by have := HN.out; omega) ?_; intro v3 w3 hown3 hgrow; obtain ⟨A3, cap3, rfl, hc3⟩ := hown3.form; have g5 := (hgrow.cell_far ⟨a, 5, none⟩ (Nat.lt_of_lt_of_le hal HBA.out.size) H2.out.pa).trans HSA.out.1; have gf5 := (hgrow.frozen_far ⟨a, 5, none⟩ (Nat.lt_of_lt_of_le hal HBA.out.size) H2.out.pa).trans HSA.out.2.1))
    all_goals
      have HE := hid ((H2.out.below HBA.out).appended (HF.out.thenBelow HBA.out) HU.out hgrow f hown3)
      clear hgrow hown3 g5 gf5
      go_wp2
      go_ret
      exact ⟨rfl, by rw [HT2.out]; exact HE.out.1, HE.out.2⟩
  · have hT : T = S.put f.slot { S.get f.slot with un := true } := by rw [← HT.out]; unfold Dv.happen; simp [hk]
    have HT2 := hid hT
    clear hT
    have hs0 := valid_media HV.out hk
    have e1 : (f.kind == 1) = false := by rw [beq_eq_false_iff_ne]; omega
    have e2 : (f.kind == 2) = false := by rw [beq_eq_false_iff_ne]; omega
    have e3 : (f.kind == 3) = false := by rw [beq_eq_false_iff_ne]; omega
    have e4 : (f.kind == 4) = false := by rw [beq_eq_false_iff_ne]; omega
    have e5 : (f.kind == 5) = false := by rw [beq_eq_false_iff_ne]; omega
    have e6 : (f.kind == 6) = false := by rw [beq_eq_false_iff_ne]; omega
    have e7 := (beq_iff_eq (a := f.kind) (b := 7)).2 hk
    have HK := hid hk
    clear hk
    go_upto_region 19 with fail
    go_wp2_with fail
    refine (cell_any H2.out HS.out f.slot hs0).mono ?_
    rintro e w' ⟨rfl, n1, rfl⟩
    have hk := S.at_lt HS.out f.slot
    have hs4 := (H2.out.drewN n1).secs.poke (S.at_ f.slot) 1 (.bool true) { S.get f.slot with un := true } hk (by omega) (by rw [S.get_eq HS.out]; rfl)
    have h4 := (H2.out.drewN n1).of_grown (grownBy_set (grownBy_refl _ _) _ _) _ (by simp) hs4
    have c1 := ((H2.out.drewN n1).secs.cells (S.at_ f.slot) hk).2.1
    have f1 := ((H2.out.drewN n1).secs.frees (S.at_ f.slot) hk).2.1
    have H4 := hid h4
    have HF4 := hid ((HF.out.drewN n1).setCell ⟨b, S.at_ f.slot * 3 + 1, none⟩ (.bool true) (.inl H2.out.ob))
    clear h4 hs4
    go_wp2
    go_ret
    refine ⟨rfl, ?_, HF4.out⟩
    rw [HT2.out]
    exact H4.out.done HF4.out HU.out
theorem inject_e {w : World} {o : Own} {a : Nat} {S : Dv} (h : Drv w o a S) (hS : S.Ok) (f : Flt) (hn : S.pend.length ≤ 1000000) :
    Calls Try.prog 11 #[.pointer (some ⟨a, 0, none⟩), f.val] w fun e w' => e = .returned (.int .i64 (S.inject f).1) ∧ Drv w' (Grow o w w') a (S.inject f).2 ∧ Fr o w w' := by
  obtain ⟨p, b, c, pv, h⟩ := h
  cases hv : Dv.valid S.claim f
  · exact inject_no h hS f (.inl hv)
  · cases hd : S.dead
    · have : S.inject f = (0, S.happen f) := by unfold Dv.inject; rw [hv, hd]; rfl
      rw [this]
      exact inject_yes h hS f hv hd hn
    · exact inject_no h hS f (.inr hd)
end
end Go.Proofs.Ytgeopgibjmhehaa
