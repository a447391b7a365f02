/- Write, Erase of the reference's drive. -/
import Derived.Test.YtegekmdechcikaaERefNew
namespace Go.Proofs.Ytegekmdechcikaa
open Go Go.RowKit Go.Sort

theorem rsec_size : (Try.prog.info? 117).map (·.size) = some 3 := by kernel_rfl
theorem Ref.grow {w w' : World} {o : Own} {a : Nat} {S : Dv} (h : Ref w' o a S) (hf : Fr o w w') (hu : Under w o) : Ref w' (Grow o w w') a S := by
  obtain ⟨R, h, r⟩ := h
  exact ⟨R, h.growTo hf hu, r⟩
theorem Rel.sameBut {R S : Dv} (h : Rel R S) (t : Int) (q : List Flt) : Rel { R with term := t, pend := q } { S with term := t, pend := q } := ⟨h.claim, h.on, h.dead, rfl, rfl, h.len, h.secs⟩
theorem Rel.put {R S : Dv} (h : Rel R S) (hd : S.dead = false) (s : Int) (x : Sec) : Rel { R with secs := R.secs.set (S.at_ s) x } (S.put s x) :=
  ⟨h.claim, h.on, h.dead, h.term, h.pend, by simp [Dv.put, h.len], fun _ => by show R.secs.set _ _ = S.secs.set _ _; rw [h.secs hd]⟩
section
variable {w : World} {o p : Own} {a b c : Nat} {pv : Value} {R S : Dv}
set_option maxRecDepth 100000 in
set_option maxHeartbeats 2000000 in
/-- The end of Write: the sector is stored. -/
theorem ref_no (h : DrvB w o p a b c pv R) (hr : Rel R S) (t s : Int) (d : ByteArray) (hno : S.online = false ∨ t < S.term ∨ S.slot s = false ∨ d.size ≠ 36) :
    Calls Try.prog 54 #[.pointer (some ⟨a, 0, none⟩), .int .i64 t, .int .i64 s, .string d] w fun e w' => e = .returned (.int .i64 (S.write t s d).1) ∧ Ref w' (Grow o w w') a (S.write t s d).2 ∧ Fr o w w' := by
  obtain ⟨c0, c1, c2, c3, c4, c5⟩ := h.cells
  rw [hr.claim] at c0
  rw [hr.on] at c2
  rw [hr.term] at c4
  have HE : ∀ T, T = S → Ref w (Grow o w w) a T ∧ Fr o w w := fun T e => by subst e; exact ⟨(Ref.grow ⟨R, ⟨_, _, _, _, h⟩, hr⟩ (Fr.refl _ _) h.un), Fr.refl _ _⟩
  have HE := hid HE
  clear h hr c1 c3 c5
  cases ho : S.online
  · have hw : S.write t s d = (105, S) := by unfold Dv.write; rw [if_pos ho]
    rw [hw]
    rw [ho] at c2
    clear hno hw ho
    go_enter Try.func54, Try.ntmps54
    go_wp2
    go_ret
    exact ⟨rfl, HE.out _ rfl⟩
  · rw [ho] at c2
    by_cases ht : t < S.term
    · have hw : S.write t s d = (106, S) := by unfold Dv.write; rw [if_neg (by simp [ho]), if_pos ht]
      rw [hw]
      clear hno hw ho
      go_enter Try.func54, Try.ntmps54
      go_wp2
      go_ret
      exact ⟨rfl, HE.out _ rfl⟩
    · by_cases h0 : s < 0
      · have hw : S.write t s d = (5, S) := by unfold Dv.write; rw [if_neg (by simp [ho]), if_neg ht, if_pos]; unfold Dv.slot; rw [decide_eq_false]; omega
        rw [hw]
        clear hno hw ho
        go_enter Try.func54, Try.ntmps54
        go_wp2
        go_ret
        exact ⟨rfl, HE.out _ rfl⟩
      · by_cases h1 : S.claim ≤ s
        · have hw : S.write t s d = (5, S) := by unfold Dv.write; rw [if_neg (by simp [ho]), if_neg ht, if_pos]; unfold Dv.slot; rw [decide_eq_false]; omega
          rw [hw]
          clear hno hw ho
          go_enter Try.func54, Try.ntmps54
          go_wp2
          go_ret
          exact ⟨rfl, HE.out _ rfl⟩
        · have hsl : S.slot s = true := by unfold Dv.slot; rw [decide_eq_true]; omega
          have hd : d.size ≠ 36 := by
            rcases hno with h | h | h | h
            · rw [ho] at h; cases h
            · exact absurd h ht
            · rw [hsl] at h; cases h
            · exact h
          have hw : S.write t s d = (101, S) := by unfold Dv.write; rw [if_neg (by simp [ho]), if_neg ht, if_neg (by simp [hsl]), if_pos hd]
          rw [hw]
          have hd' : ((d.size : Int) != 36) = true := by rw [bne_iff_ne]; omega
          clear hno hw ho hsl hd
          go_enter Try.func54, Try.ntmps54
          go_wp2
          go_ret
          exact ⟨rfl, HE.out _ rfl⟩
set_option maxRecDepth 100000 in
set_option maxHeartbeats 2000000 in
theorem ref_nil (h : DrvB w o p a b c pv R) (hr : Rel R S) (hS : S.Ok) (hp : S.pend = []) (t s : Int) (d : ByteArray) (ho : S.online = true) (ht : ¬ t < S.term) (h0 : 0 ≤ s) (h1 : s < S.claim) (hd : d.size = 36) :
    Calls Try.prog 54 #[.pointer (some ⟨a, 0, none⟩), .int .i64 t, .int .i64 s, .string d] w fun e w' => e = .returned (.int .i64 0) ∧ Ref w' (Grow o w w') a (Dv.store { S with term := t } s d) ∧ Fr o w w' := by
  obtain ⟨c0, c1, c2, c3, c4, c5⟩ := h.cells
  rw [hr.claim] at c0
  rw [hr.on, ho] at c2
  rw [hr.term] at c4
  have f4 := h.free 4 (by omega)
  have hstore : Dv.store { S with term := t } s d = Dv.put { S with term := t } s ⟨d, false, false⟩ := by unfold Dv.store; simp only [hp]
  have HST := hid hstore
  have hpv := h.pend
  rw [hr.pend, hp] at hpv
  obtain ⟨A, cap, rfl, _⟩ := hpv.form
  have HH := hid h
  have HS := hid hS
  have HR := hid hr
  have HDL := hid (online_live ho)
  clear h hS hr hpv hstore hp ho c3
  go_enter Try.func54, Try.ntmps54
  go_upto_region 10 with fail
  have hq1 := HH.out.term t
  have hk1 : Fr o w (w.setCell ⟨a, 4, none⟩ (.int .i64 t)) := (Fr.refl o w).setCell _ _ (.inl HH.out.oa)
  generalize w.setCell ⟨a, 4, none⟩ (.int .i64 t) = w1 at hq1 hk1 ⊢
  obtain ⟨d0, d1, d2, d3, d4, d5⟩ := hq1.cells
  have H1 := hid hq1
  have HK := hid hk1
  have HR1 := hid (show Rel { R with term := t } { S with term := t } from ⟨HR.out.claim, HR.out.on, HR.out.dead, rfl, HR.out.pend, HR.out.len, HR.out.secs⟩)
  have HS1 := hid (show Dv.Ok { S with term := t } from HS.out.same rfl rfl (fun _ e => e))
  clear hq1 hk1 c0 c1 c2 c4 c5 f4 d0 d2 d3 d4
  dsimp only at d1
  have hlt := HR.out.lt HS.out s
  have hx0 : (0 : Int) ≤ ((S.at_ s : Nat) : Int) := by omega
  have hx1 : ((S.at_ s : Nat) : Int) < (R.secs.length : Int) := by omega
  go_upto_region 16 with fail
  have hat := fun W (hW : DrvB W o p a b c (.slice A 0 cap) { R with term := t }) => show Calls Try.prog 71 #[.pointer (some ⟨a, 0, none⟩), .int .i64 s] W fun e w' => e = .returned (.int .i64 ((S.at_ s : Nat) : Int)) ∧ W = w' from at_any hW HR1.out HS1.out s h0
  have HAT := hid hat
  clear hat
  refine wp_region_quiet_tail 10 (fun w' => ∃ n, w' = w1.drewN n) ⟨1, rfl⟩ (by kernel_rfl) (by kernel_rfl) ?_
  simp only [List.take_succ_cons, List.take_zero, List.drop_succ_cons, List.drop_zero]
  repeat (go_big_quiet_step ((go_at_call 71; exact quiet_left (HAT.out _ (H1.out.drewN _)))))
  refine wpQuiet_nil ?_
  rintro _ ⟨nq, rfl⟩
  have hth := (H1.out.drewN nq).secs.free (S.at_ s) hlt
  go_wp2_with (refine wpList_store_mid rfl 117 (.tmp 77) (.tmp 76) rfl b (S.at_ s * 3) #[.string d, .bool false, .bool false] rfl rfl hth rsec_size (sec_one _ _ _) ?_)
  go_ret
  have hfin := (H1.out.drewN nq).write (S.at_ s) ⟨d, false, false⟩ hlt
  have hfr : Fr o w ((w1.drewN nq).setCells b (S.at_ s * 3) (Sec.cells ⟨d, false, false⟩)) := Fr.setCells (.inl HH.out.ob) _ _ _ (HK.out.drewN nq)
  refine ⟨rfl, ?_, hfr⟩
  rw [HST.out]
  exact Ref.grow ⟨_, ⟨_, _, _, _, hfin⟩, HR1.out.put HDL.out s _⟩ hfr HH.out.un
end
end Go.Proofs.Ytegekmdechcikaa
