/- Clone of the program's drive. -/
import Derived.Test.YtiodfnjblimmbaaESleeps
namespace Go.Proofs.Ytiodfnjblimmbaa
open Go Go.RowKit Go.Sort

/-- Out of a box, a row of sectors and a row of faults, all new: a drive. -/
theorem mkDrv {w W : World} {q b c : Nat} {pv : Value} {p1 p2 : Own} {S : Dv} (hv : ValsAt W q [.int .i64 S.claim, .slice (some ⟨b, 0, none⟩) S.secs.length c, .bool S.off, .bool S.dead, .int .i64 S.term, pv])
    (h1 : OwnSl W p1 3 (.slice (some ⟨b, 0, none⟩) S.secs.length c) S.secs.length (secCells S.secs)) (h2 : OwnSl W p2 5 pv S.pend.length (fltCells S.pend))
    (n1 : ¬ p1 q) (n2 : ¬ p2 q) (ap : ∀ k, p1 k → ¬ p2 k) (lo1 : ∀ k, p1 k → w.heap.size ≤ k) (lo2 : ∀ k, p2 k → w.heap.size ≤ k) (hi2 : ∀ k, p2 k → k < W.heap.size) (lq : w.heap.size ≤ q) (one : 1 ≤ S.secs.length) :
    DrvB W (Grow NoOwn w W) p2 q b c pv S := by
  obtain ⟨g, off, cap, e, hg, hlt, hn, hc, _⟩ := h1.some_ (by omega)
  injection e with e1 _ e3
  injection e1 with e1
  injection e1 with e1 _
  subst e1
  subst e3
  refine ⟨hv, secs_of_own h1, fun e => n1 (e ▸ hg), h2, n2, ap _ hg, fun k e => .inr ⟨lo2 k e, hi2 k e⟩, .inr ⟨lq, hv.lt⟩, .inr ⟨lo1 _ hg, hlt⟩, fun k e => ?_, ⟨hn, hc⟩⟩
  rcases e with e | e
  · exact e.elim
  · exact e.2
theorem own_form0 {w : World} {o : Own} {size n : Nat} {v : Value} {xs : List Value} (h : OwnSl w o size v n xs) (hn : 0 < n) (h0 : Off0 v) : ∃ g c, v = .slice (some ⟨g, 0, none⟩) n c := by
  obtain ⟨g, off, cap, rfl, _⟩ := h.some_ hn
  have := h0 _ _ _ rfl
  dsimp only at this
  subst this
  exact ⟨g, cap, rfl⟩
theorem secCells_one (l : List Sec) : ∀ u ∈ secCells l, u.oneCell' = true := by
  intro u hu
  unfold secCells at hu
  rw [List.mem_flatMap] at hu
  obtain ⟨s, _, hu⟩ := hu
  simp [Sec.cells] at hu
  rcases hu with rfl | rfl | rfl <;> rfl
section
variable {w : World} {o : Own} {a : Nat} {S : Dv}
set_option maxRecDepth 100000 in
set_option maxHeartbeats 1000000 in
theorem clone_e (h : Drv w o a S) (hS : S.Ok) (hn : S.pend.length ≤ 1000000) :
    Calls Try.prog 35 #[.pointer (some ⟨a, 0, none⟩)] w fun e w' => ∃ q, e = .returned (.pointer (some ⟨q, 0, none⟩)) ∧ Drv w' (Grow NoOwn w w') q S ∧ Below w.heap.size w w' := by
  obtain ⟨p, b, c, pv, h⟩ := h
  have HS := hid hS
  have HN := hid hn
  have h1 := hS.one
  have HL := hid (show S.secs.length ≤ 128 by have := hS.le; have := hS.top; omega)
  obtain ⟨i0, hi0, hz0, hz1, hz2⟩ := info_parts Try.info_cell
  obtain ⟨j0, hj0, hy0, hy1, hy2⟩ := info_parts Try.info_flt
  obtain ⟨Ap, capp, rfl, _⟩ := h.pend.form
  have HH := hid h
  obtain ⟨z0, z1, z2, z3, z4, z5⟩ := h.cells
  clear h hS hn
  go_enter Try.func35, Try.ntmps35
  have hb1 : Below w.heap.size w (w.alloc (.cells #[.int .i64 S.claim, .slice (some ⟨b, 0, none⟩) S.secs.length c, .bool S.off, .bool S.dead, .int .i64 S.term, .slice Ap S.pend.length capp] 74)) := (Below.refl _ _).alloc (Nat.le_refl _) _
  have HV := hid (show ValsAt (w.alloc (.cells #[.int .i64 S.claim, .slice (some ⟨b, 0, none⟩) S.secs.length c, .bool S.off, .bool S.dead, .int .i64 S.term, .slice Ap S.pend.length capp] 74)) w.heap.size [.int .i64 S.claim, .slice (some ⟨b, 0, none⟩) S.secs.length c, .bool S.off, .bool S.dead, .int .i64 S.term, .slice Ap S.pend.length capp] from vals_new w _ _)
  have HD1 := hid (HH.out.below hb1)
  have HB1 := hid hb1
  clear hb1
  go_upto_region 4 with fail
  clear z0 z1 z2 z3 z4 z5
  generalize w.alloc (.cells #[.int .i64 S.claim, .slice (some ⟨b, 0, none⟩) S.secs.length c, .bool S.off, .bool S.dead, .int .i64 S.term, .slice Ap S.pend.length capp] 74) = w1 at *
  obtain ⟨q, hq⟩ : ∃ q, w.heap.size = q := ⟨_, rfl⟩
  have HQ := hid hq
  rw [hq] at HV
  rw [hq]
  clear hq
  have z1 := HD1.out.cells.2.1
  have x1 := HV.out.cell 1 (by simp)
  have f1 := HV.out.free 1 (by simp)
  have hsrc := src_of_secs (c := c) HD1.out.secs
  go_wp2_with (at_builtin; refine wpList_append_sl0 (by rfl) (.const (.slice none 0 0)) (.tmp 12) 71 (by rfl) 78 i0 _ 3 24 Try.underlying71 hi0 hz0 hz1 hz2 rfl (by decide) NoOwn (.slice none 0 0) (.slice (some ⟨b, 0, none⟩) S.secs.length c) 0 S.secs.length [] (secCells S.secs) (by rfl) (by rfl) (OwnSl.nil _ _ _) hsrc (secCells_one _) (by have := HL.out; unfold maxLen; omega) (by have := HL.out; omega) ?_)
  intro v2 w2 hown2 hf2 ho2

  try simp only [Nat.zero_add, List.nil_append] at hown2
  obtain ⟨b2, c2, rfl⟩ := own_form0 hown2 (by omega) (ho2 off0_nil)
  have hb2 : Below w1.heap.size w1 w2 := hf2.below (fun k e => e.elim) (Nat.le_refl _)
  have HB2 := hid hb2
  have hql : q < w1.heap.size := HV.out.lt
  have HV2 := hid (HV.out.below hb2 hql)
  have HD2 := hid (HD1.out.below hb2)
  have HO2 := hid hown2
  have HQL := hid hql
  clear hown2 hf2 ho2 hb2 hql hsrc z1 x1 f1 HD1 HV
  have x1 := HV2.out.cell 1 (by simp)
  have f1 := HV2.out.free 1 (by simp)
  have HV3 := hid (HV2.out.store 1 (.slice (some ⟨b2, 0, none⟩) S.secs.length c2) (by simp))
  have hf3 : Fr (fun k => k = q) w2 (w2.setCell ⟨q, 1, none⟩ (.slice (some ⟨b2, 0, none⟩) S.secs.length c2)) := (Fr.refl _ _).setCell ⟨q, 1, none⟩ _ (.inl rfl)
  have HD3 := hid (HD2.out.fr hf3 (fun k e1 e2 => by have := HH.out.un k e1; have := HQ.out; omega))
  have HO3 := hid (HO2.out.fr hf3 (fun k e1 e2 => by have := HQL.out; rcases e1 with e1 | e1; exact e1; omega))
  have HF3 := hid hf3
  go_upto_region 5 with fail
  clear x1 f1 hf3 HD2 HO2 HV2
  generalize w2.setCell ⟨q, 1, none⟩ (.slice (some ⟨b2, 0, none⟩) S.secs.length c2) = w3 at *
  have z5 := HD3.out.cells.2.2.2.2.2
  have x5 := HV3.out.cell 5 (by simp)
  have f5 := HV3.out.free 5 (by simp)
  have hsrc := OwnSl.src HD3.out.pend
  go_wp2_with (at_builtin; refine wpList_append_sl0 (by rfl) (.const (.slice none 0 0)) (.tmp 18) 72 (by rfl) 49 j0 _ 5 40 Try.underlying72 hj0 hy0 hy1 hy2 rfl (by decide) NoOwn (.slice none 0 0) (.slice Ap S.pend.length capp) 0 S.pend.length [] (fltCells S.pend) (by rfl) (by rfl) (OwnSl.nil _ _ _) hsrc (fltCells_one _) (by have := HN.out; unfold maxLen; omega) (by have := HN.out; omega) ?_)
  intro v4 w4 hown4 hf4 _
  try simp only [Nat.zero_add, List.nil_append] at hown4
  obtain ⟨A4, c4, rfl, _⟩ := hown4.form
  have hb4 : Below w3.heap.size w3 w4 := hf4.below (fun k e => e.elim) (Nat.le_refl _)
  have hs3 := HF3.out.size
  have hs2 := HB2.out.size
  have HV4 := hid (HV3.out.below hb4 (by have := HQL.out; omega))
  have HO4 := hid (HO3.out.below hb4)
  have HP4 := hid hown4
  clear hown4 hf4 hsrc z5 x5 f5 HD3 HV3 HO3
  have x5 := HV4.out.cell 5 (by simp)
  have f5 := HV4.out.free 5 (by simp)
  have HV5 := hid (HV4.out.store 5 (.slice A4 S.pend.length c4) (by simp))
  have hf5 : Fr (fun k => k = q) w4 (w4.setCell ⟨q, 5, none⟩ (.slice A4 S.pend.length c4)) := (Fr.refl _ _).setCell ⟨q, 5, none⟩ _ (.inl rfl)
  have HO5 := hid (HO4.out.fr hf5 (fun k e1 e2 => by have := HQL.out; rcases e1 with e1 | e1; exact e1; omega))
  have HP5 := hid (HP4.out.fr hf5 (fun k e1 e2 => by have := HQL.out; rcases e1 with e1 | e1; exact e1; omega))
  have hs4 := hb4.size
  have HW := hid (show Below w.heap.size w (w4.setCell ⟨q, 5, none⟩ (.slice A4 S.pend.length c4)) from by
    have h2 : Below w.heap.size w w2 := HB1.out.trans (HB2.out.mono HB1.out.size)
    have h3 : Below w.heap.size w w3 := below_of_fr h2 HF3.out (fun k e => by have := HQ.out; omega) h2.size
    have h4 : Below w.heap.size w w4 := h3.trans (hb4.mono h3.size)
    exact below_of_fr h4 hf5 (fun k e => by have := HQ.out; omega) h4.size)
  have HS5 := hid hf5.size
  clear hf5 hb4 HV4 HO4 HP4
  go_wp2
  go_ret
  have hq := HQ.out
  have hql := HQL.out
  have hs5 := HS5.out
  refine ⟨q, rfl, ⟨_, _, _, _, mkDrv HV5.out HO5.out HP5.out ?_ ?_ ?_ ?_ ?_ ?_ (by omega) h1⟩, HW.out⟩
  · rintro (e | e)
    · exact e
    · omega
  · rintro (e | e)
    · exact e
    · omega
  · rintro k (e | e)
    · exact e.elim
    · rintro (e2 | e2)
      · exact e2
      · omega
  · rintro k (e | e)
    · exact e.elim
    · omega
  · rintro k (e | e)
    · exact e.elim
    · omega
  · rintro k (e | e)
    · exact e.elim
    · omega
end
end Go.Proofs.Ytiodfnjblimmbaa
