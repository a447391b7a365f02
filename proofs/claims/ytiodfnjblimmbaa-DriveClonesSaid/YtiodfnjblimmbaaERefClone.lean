/- Clone of the reference's drive. -/
import Derived.Test.YtiodfnjblimmbaaEClone
namespace Go.Proofs.Ytiodfnjblimmbaa
open Go Go.RowKit Go.Sort

section
variable {w : World} {o : Own} {a : Nat} {S : Dv}
set_option maxRecDepth 100000 in
set_option maxHeartbeats 2000000 in
theorem clone_ref (h : Ref w o a S) (hS : S.Ok) (hn : S.pend.length ≤ 1000000) :
    Calls Try.prog 36 #[.pointer (some ⟨a, 0, none⟩)] w fun e w' => ∃ q, e = .returned (.pointer (some ⟨q, 0, none⟩)) ∧ Ref w' (Grow NoOwn w w') q S ∧ Below w.heap.size w w' := by
  obtain ⟨R, ⟨p, b, c, pv, h⟩, hr⟩ := h
  have H1 := hid (hr.one hS).1
  have HL := hid (hr.one hS).2
  have HN := hid (show R.pend.length ≤ 1000000 by rw [hr.pend]; exact hn)
  have HR := hid hr
  obtain ⟨i0, hi0, hz0, hz1, hz2⟩ := info_parts Try.info_rsec
  obtain ⟨j0, hj0, hy0, hy1, hy2⟩ := info_parts Try.info_flt
  obtain ⟨Ap, capp, rfl, _⟩ := h.pend.form
  have HH := hid h
  have HCL := hid (fun (W : World) (hW : Below w.heap.size w W) => (h.below hW).cells)
  clear h hr hS hn
  go_enter Try.func36, Try.ntmps36
  go_upto_region 1 with fail
  refine wp_region_held_drew (S := (fun w' => Below w.heap.size w w')) (by kernel_rfl) ?_ (fun hHeld => ?_)
  · exact (Below.refl _ _).drew
  refine take_mk 0 (v := ?vv1) rfl (by kernel_rfl) (by kernel_rfl) (by kernel_rfl) (fun _ _ _ h => h) (Or.inl ⟨by rfl, ?hy1⟩) (by assumption) ?_
  case hy1 => (intro wx hSw; (try dsimp only at hSw); obtain ⟨c0, c1, c2, c3, c4, c5⟩ := HCL.out _ hSw; go_simp; try with_reducible rfl)
  try simp only [Act.put, List.setIfInBounds_toArray, List.set_cons_zero, List.set_cons_succ]
  refine take_mk 1 (v := ?vv2) rfl (by kernel_rfl) (by kernel_rfl) (by kernel_rfl) (fun _ _ _ h => h) (Or.inl ⟨by rfl, ?hy2⟩) (by assumption) ?_
  case hy2 => (intro wx hSw; (try dsimp only at hSw); obtain ⟨c0, c1, c2, c3, c4, c5⟩ := HCL.out _ hSw; go_simp; try with_reducible rfl)
  try simp only [Act.put, List.setIfInBounds_toArray, List.set_cons_zero, List.set_cons_succ]
  refine take_mk 2 (v := ?vv3) rfl (by kernel_rfl) (by kernel_rfl) (by kernel_rfl) (fun _ _ _ h => h) (Or.inl ⟨by rfl, ?hy3⟩) (by assumption) ?_
  case hy3 => (intro wx hSw; (try dsimp only at hSw); obtain ⟨c0, c1, c2, c3, c4, c5⟩ := HCL.out _ hSw; go_simp; try with_reducible rfl)
  try simp only [Act.put, List.setIfInBounds_toArray, List.set_cons_zero, List.set_cons_succ]
  refine take_mk 3 (v := ?vv4) rfl (by kernel_rfl) (by kernel_rfl) (by kernel_rfl) (fun _ _ _ h => h) (Or.inl ⟨by rfl, ?hy4⟩) (by assumption) ?_
  case hy4 => (intro wx hSw; (try dsimp only at hSw); obtain ⟨c0, c1, c2, c3, c4, c5⟩ := HCL.out _ hSw; go_simp; try with_reducible rfl)
  try simp only [Act.put, List.setIfInBounds_toArray, List.set_cons_zero, List.set_cons_succ]
  refine take_mk 4 (v := ?vv5) rfl (by kernel_rfl) (by kernel_rfl) (by kernel_rfl) (fun _ _ _ h => h) (Or.inl ⟨by rfl, ?hy5⟩) (by assumption) ?_
  case hy5 => (intro wx hSw; (try dsimp only at hSw); obtain ⟨c0, c1, c2, c3, c4, c5⟩ := HCL.out _ hSw; go_simp; try with_reducible rfl)
  try simp only [Act.put, List.setIfInBounds_toArray, List.set_cons_zero, List.set_cons_succ]
  refine take_mk 5 (v := ?vv6) rfl (by kernel_rfl) (by kernel_rfl) (by kernel_rfl) (fun _ _ _ h => h) (Or.inl ⟨by rfl, ?hy6⟩) (by assumption) ?_
  case hy6 => (intro wx hSw; (try dsimp only at hSw); obtain ⟨c0, c1, c2, c3, c4, c5⟩ := HCL.out _ hSw; go_simp; try with_reducible rfl)
  try simp only [Act.put, List.setIfInBounds_toArray, List.set_cons_zero, List.set_cons_succ]
  refine take_mk 6 (v := ?vv7) rfl (by kernel_rfl) (by kernel_rfl) (by kernel_rfl) (fun _ _ _ h => h) (Or.inl ⟨by rfl, ?hy7⟩) (by assumption) ?_
  case hy7 => (intro wx hSw; (try dsimp only at hSw); obtain ⟨c0, c1, c2, c3, c4, c5⟩ := HCL.out _ hSw; go_simp; try with_reducible rfl)
  try simp only [Act.put, List.setIfInBounds_toArray, List.set_cons_zero, List.set_cons_succ]
  refine take_mk 7 (v := ?vv8) rfl (by kernel_rfl) (by kernel_rfl) (by kernel_rfl) (fun _ _ _ h => h) (Or.inl ⟨by rfl, ?hy8⟩) (by assumption) ?_
  case hy8 => (intro wx hSw; (try dsimp only at hSw); obtain ⟨c0, c1, c2, c3, c4, c5⟩ := HCL.out _ hSw; go_simp; try with_reducible rfl)
  try simp only [Act.put, List.setIfInBounds_toArray, List.set_cons_zero, List.set_cons_succ]
  refine take_mk 9 (v := ?vv9) rfl (by kernel_rfl) (by kernel_rfl) (by kernel_rfl) (fun _ _ _ h => h) (Or.inl ⟨by rfl, ?hy9⟩) (by assumption) ?_
  case hy9 => (intro wx hSw; (try dsimp only at hSw); obtain ⟨c0, c1, c2, c3, c4, c5⟩ := HCL.out _ hSw; go_simp; try with_reducible rfl)
  try simp only [Act.put, List.setIfInBounds_toArray, List.set_cons_zero, List.set_cons_succ]
  refine take_mk 10 (v := ?vv10) rfl (by kernel_rfl) (by kernel_rfl) (by kernel_rfl) (fun _ _ _ h => h) (Or.inl ⟨by rfl, ?hy10⟩) (by assumption) ?_
  case hy10 => (intro wx hSw; (try dsimp only at hSw); obtain ⟨c0, c1, c2, c3, c4, c5⟩ := HCL.out _ hSw; go_simp; try with_reducible rfl)
  try simp only [Act.put, List.setIfInBounds_toArray, List.set_cons_zero, List.set_cons_succ]
  refine take_mk 11 (v := ?vv11) rfl (by kernel_rfl) (by kernel_rfl) (by kernel_rfl) (fun _ _ _ h => h) (Or.inl ⟨by rfl, ?hy11⟩) (by assumption) ?_
  case hy11 => (intro wx hSw; (try dsimp only at hSw); obtain ⟨c0, c1, c2, c3, c4, c5⟩ := HCL.out _ hSw; go_simp; try with_reducible rfl)
  try simp only [Act.put, List.setIfInBounds_toArray, List.set_cons_zero, List.set_cons_succ]
  refine take_mk 12 (v := ?vv12) rfl (by kernel_rfl) (by kernel_rfl) (by kernel_rfl) (fun _ _ _ h => h) (Or.inl ⟨by rfl, ?hy12⟩) (by assumption) ?_
  case hy12 => (intro wx hSw; (try dsimp only at hSw); obtain ⟨c0, c1, c2, c3, c4, c5⟩ := HCL.out _ hSw; go_simp; try with_reducible rfl)
  try simp only [Act.put, List.setIfInBounds_toArray, List.set_cons_zero, List.set_cons_succ]
  refine take_mk 13 (v := ?vv13) rfl (by kernel_rfl) (by kernel_rfl) (by kernel_rfl) (fun _ _ _ h => h) (Or.inl ⟨by rfl, ?hy13⟩) (by assumption) ?_
  case hy13 => (intro wx hSw; (try dsimp only at hSw); obtain ⟨c0, c1, c2, c3, c4, c5⟩ := HCL.out _ hSw; go_simp; try with_reducible rfl)
  try simp only [Act.put, List.setIfInBounds_toArray, List.set_cons_zero, List.set_cons_succ]
  refine take_mk 14 (v := ?vv14) rfl (by kernel_rfl) (by kernel_rfl) (by kernel_rfl) (fun _ _ _ h => h) (Or.inl ⟨by rfl, ?hy14⟩) (by assumption) ?_
  case hy14 => (intro wx hSw; (try dsimp only at hSw); obtain ⟨c0, c1, c2, c3, c4, c5⟩ := HCL.out _ hSw; go_simp; try with_reducible rfl)
  try simp only [Act.put, List.setIfInBounds_toArray, List.set_cons_zero, List.set_cons_succ]
  refine take_mk 15 (v := ?vv15) rfl (by kernel_rfl) (by kernel_rfl) (by kernel_rfl) (fun _ _ _ h => h) (Or.inl ⟨by rfl, ?hy15⟩) (by assumption) ?_
  case hy15 => (intro wx hSw; (try dsimp only at hSw); obtain ⟨c0, c1, c2, c3, c4, c5⟩ := HCL.out _ hSw; go_simp; try with_reducible rfl)
  try simp only [Act.put, List.setIfInBounds_toArray, List.set_cons_zero, List.set_cons_succ]
  refine take_mk 16 (v := ?vv16) rfl (by kernel_rfl) (by kernel_rfl) (by kernel_rfl) (fun _ _ _ h => h) (Or.inl ⟨by rfl, ?hy16⟩) (by assumption) ?_
  case hy16 => (intro wx hSw; (try dsimp only at hSw); obtain ⟨c0, c1, c2, c3, c4, c5⟩ := HCL.out _ hSw; go_simp; try with_reducible rfl)
  try simp only [Act.put, List.setIfInBounds_toArray, List.set_cons_zero, List.set_cons_succ]
  refine take_mk 17 (v := ?vv17) rfl (by kernel_rfl) (by kernel_rfl) (by kernel_rfl) (fun _ _ _ h => h) (Or.inl ⟨by rfl, ?hy17⟩) (by assumption) ?_
  case hy17 => (intro wx hSw; (try dsimp only at hSw); obtain ⟨c0, c1, c2, c3, c4, c5⟩ := HCL.out _ hSw; go_simp; try with_reducible rfl)
  try simp only [Act.put, List.setIfInBounds_toArray, List.set_cons_zero, List.set_cons_succ]
  refine take_mk 18 (v := ?vv18) rfl (by kernel_rfl) (by kernel_rfl) (by kernel_rfl) (fun _ _ _ h => h) (Or.inl ⟨by rfl, ?hy18⟩) (by assumption) ?_
  case hy18 => (intro wx hSw; (try dsimp only at hSw); obtain ⟨c0, c1, c2, c3, c4, c5⟩ := HCL.out _ hSw; go_simp; try with_reducible rfl)
  try simp only [Act.put, List.setIfInBounds_toArray, List.set_cons_zero, List.set_cons_succ]
  refine take_mk 19 (v := ?vv19) rfl (by kernel_rfl) (by kernel_rfl) (by kernel_rfl) (fun _ _ _ h => h) (Or.inl ⟨by rfl, ?hy19⟩) (by assumption) ?_
  case hy19 => (intro wx hSw; (try dsimp only at hSw); obtain ⟨c0, c1, c2, c3, c4, c5⟩ := HCL.out _ hSw; go_simp; try with_reducible rfl)
  try simp only [Act.put, List.setIfInBounds_toArray, List.set_cons_zero, List.set_cons_succ]
  refine take_mk 20 (v := ?vv20) rfl (by kernel_rfl) (by kernel_rfl) (by kernel_rfl) (fun _ _ _ h => h) (Or.inl ⟨by rfl, ?hy20⟩) (by assumption) ?_
  case hy20 => (intro wx hSw; (try dsimp only at hSw); obtain ⟨c0, c1, c2, c3, c4, c5⟩ := HCL.out _ hSw; go_simp; try with_reducible rfl)
  try simp only [Act.put, List.setIfInBounds_toArray, List.set_cons_zero, List.set_cons_succ]
  refine take_mk 21 (v := ?vv21) rfl (by kernel_rfl) (by kernel_rfl) (by kernel_rfl) (fun _ _ _ h => h) (Or.inl ⟨by rfl, ?hy21⟩) (by assumption) ?_
  case hy21 => (intro wx hSw; (try dsimp only at hSw); obtain ⟨c0, c1, c2, c3, c4, c5⟩ := HCL.out _ hSw; go_simp; try with_reducible rfl)
  try simp only [Act.put, List.setIfInBounds_toArray, List.set_cons_zero, List.set_cons_succ]
  refine take_mk 22 (v := ?vv22) rfl (by kernel_rfl) (by kernel_rfl) (by kernel_rfl) (fun _ _ _ h => h) (Or.inl ⟨by rfl, ?hy22⟩) (by assumption) ?_
  case hy22 => (intro wx hSw; (try dsimp only at hSw); obtain ⟨c0, c1, c2, c3, c4, c5⟩ := HCL.out _ hSw; go_simp; try with_reducible rfl)
  try simp only [Act.put, List.setIfInBounds_toArray, List.set_cons_zero, List.set_cons_succ]
  refine take_mk 23 (v := ?vv23) rfl (by kernel_rfl) (by kernel_rfl) (by kernel_rfl) (fun _ _ _ h => h) (Or.inl ⟨by rfl, ?hy23⟩) (by assumption) ?_
  case hy23 => (intro wx hSw; (try dsimp only at hSw); obtain ⟨c0, c1, c2, c3, c4, c5⟩ := HCL.out _ hSw; go_simp; try with_reducible rfl)
  try simp only [Act.put, List.setIfInBounds_toArray, List.set_cons_zero, List.set_cons_succ]
  refine take_mk 24 (v := ?vv24) rfl (by kernel_rfl) (by kernel_rfl) (by kernel_rfl) (fun _ _ _ h => h) (Or.inl ⟨by rfl, ?hy24⟩) (by assumption) ?_
  case hy24 => (intro wx hSw; (try dsimp only at hSw); obtain ⟨c0, c1, c2, c3, c4, c5⟩ := HCL.out _ hSw; go_simp; try with_reducible rfl)
  try simp only [Act.put, List.setIfInBounds_toArray, List.set_cons_zero, List.set_cons_succ]
  refine wpAnyH_ready (rs := [8]) (by kernel_rfl) (by simp) ?_
  refine cons_mk rfl (fun K hK => ?_) ?_
  · (rw [if_pos (by rfl)]; refine wp_append_sl0 (.const (.slice none 0 0)) (.tmp 10) 81 (by rfl) 85 i0 _ 3 24 Try.underlying81 hi0 hz0 hz1 hz2 rfl (by decide) NoOwn (.slice none 0 0) (.slice (some ⟨b, 0, none⟩) R.secs.length c) 0 R.secs.length [] (secCells R.secs) (by rfl) (by rfl) (OwnSl.nil _ _ _) (src_of_secs (HH.out.below hHeld).secs) (secCells_one _) (by have := HL.out; unfold maxLen; omega) (by have := HL.out; omega) ?_; intro v2 w2 hown2 hf2 ho2; try simp only [Nat.zero_add, List.nil_append] at hown2; obtain ⟨b2, c2, rfl⟩ := own_form0 hown2 (by have := H1.out; omega) (ho2 off0_nil); have hb2 : Below w.drew.heap.size w.drew w2 := hf2.below (fun k e => e.elim) (Nat.le_refl _))
    refine hK.out _ _ ?_ (fun hHeld => ?_)
    · (first | exact hHeld | exact hHeld.trans (hb2.mono hHeld.size) | exact hHeld.trans (hb4.mono hHeld.size) | exact hHeld.alloc hHeld.size _)
    clear hK K
    try simp only [Act.put, List.setIfInBounds_toArray, List.set_cons_zero, List.set_cons_succ]
    refine wpAnyH_ready (rs := [25]) (by kernel_rfl) (by simp) ?_
    refine cons_mk rfl (fun K hK => ?_) ?_
    · (rw [if_pos (by rfl)]; refine wp_append_sl0 (.const (.slice none 0 0)) (.tmp 27) 72 (by rfl) 49 j0 _ 5 40 Try.underlying72 hj0 hy0 hy1 hy2 rfl (by decide) NoOwn (.slice none 0 0) (.slice Ap R.pend.length capp) 0 R.pend.length [] (fltCells R.pend) (by rfl) (by rfl) (OwnSl.nil _ _ _) (OwnSl.src (HH.out.below hHeld).pend) (fltCells_one _) (by have := HN.out; unfold maxLen; omega) (by have := HN.out; omega) ?_; intro v4 w4 hown4 hf4 ho4; try simp only [Nat.zero_add, List.nil_append] at hown4; obtain ⟨A4, c4, rfl, _⟩ := hown4.form; have hb4 : Below w2.heap.size w2 w4 := hf4.below (fun k e => e.elim) (Nat.le_refl _))
      refine hK.out _ _ ?_ (fun hHeld => ?_)
      · (first | exact hHeld | exact hHeld.trans (hb2.mono hHeld.size) | exact hHeld.trans (hb4.mono hHeld.size) | exact hHeld.alloc hHeld.size _)
      clear hK K
      try simp only [Act.put, List.setIfInBounds_toArray, List.set_cons_zero, List.set_cons_succ]
      refine take_mk 26 (v := ?vv25) rfl (by kernel_rfl) (by kernel_rfl) (by kernel_rfl) (fun _ _ _ h => h) (Or.inl ⟨by rfl, ?hy25⟩) (by assumption) ?_
      case hy25 => (intro wx hSw; (try dsimp only at hSw); obtain ⟨c0, c1, c2, c3, c4, c5⟩ := HCL.out _ hSw; go_simp; try with_reducible rfl)
      try simp only [Act.put, List.setIfInBounds_toArray, List.set_cons_zero, List.set_cons_succ]
      refine wpAnyH_ready (rs := [27]) (by kernel_rfl) (by simp) ?_
      refine cons_mk rfl (fun K hK => ?_) ?_
      · go_simp
        refine hK.out _ _ ?_ (fun hHeld => ?_)
        · (first | exact hHeld | exact hHeld.trans (hb2.mono hHeld.size) | exact hHeld.trans (hb4.mono hHeld.size) | exact hHeld.alloc hHeld.size _)
        clear hK K
        try simp only [Act.put, List.setIfInBounds_toArray, List.set_cons_zero, List.set_cons_succ]
        refine wpAnyH_ready (rs := [28]) (by kernel_rfl) (by simp) ?_
        refine cons_mk rfl (fun K hK => ?_) ?_
        · go_simp
          refine hK.out _ _ ?_ (fun hHeld => ?_)
          · (first | exact hHeld | exact hHeld.trans (hb2.mono hHeld.size) | exact hHeld.trans (hb4.mono hHeld.size) | exact hHeld.alloc hHeld.size _)
          clear hK K
          try simp only [Act.put, List.setIfInBounds_toArray, List.set_cons_zero, List.set_cons_succ]
          refine wpAnyH_done (by kernel_rfl) ?_ _
          have hwd : w.drew.heap.size = w.heap.size := rfl
          have hs2 := hb2.size
          have hs4 := hb4.size
          have HW := hid hHeld
          have HV := hid (vals_new w4 [.int .i64 R.claim, .slice (some ⟨b2, 0, none⟩) R.secs.length c2, .bool R.off, .bool R.dead, .int .i64 R.term, .slice A4 R.pend.length c4] 83)
          have hba : Below w4.heap.size w4 (w4.alloc (.cells #[.int .i64 R.claim, .slice (some ⟨b2, 0, none⟩) R.secs.length c2, .bool R.off, .bool R.dead, .int .i64 R.term, .slice A4 R.pend.length c4] 83)) := (Below.refl _ _).alloc (Nat.le_refl _) _
          have HO := hid (OwnSl.below (OwnSl.below hown2 hb4) hba)
          have HP := hid (OwnSl.below hown4 hba)
          have hsa := hba.size
          clear hown2 hown4 hba hHeld hf2 hf4 ho2 ho4
          go_wp2
          go_ret
          refine ⟨w4.heap.size, rfl, ⟨R, ⟨_, _, _, _, mkDrv HV.out HO.out HP.out ?_ ?_ ?_ ?_ ?_ ?_ (by omega) H1.out⟩, HR.out⟩, HW.out⟩
          · rintro (e | e)
            · exact e
            · omega
          · rintro (e | e)
            · exact e
            · omega
          · rintro k (e | e)
            · exact e.elim
            · rintro (e2 | e2)
              · exact e2
              · omega
          · rintro k (e | e)
            · exact e.elim
            · omega
          · rintro k (e | e)
            · exact e.elim
            · omega
          · rintro k (e | e)
            · exact e.elim
            · omega
        exact AllReadyH.nil
      exact AllReadyH.nil
    exact AllReadyH.nil
  exact AllReadyH.nil
end
end Go.Proofs.Ytiodfnjblimmbaa
