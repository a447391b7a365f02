/- Valid, Platters, New of the reference's drive. -/
import Derived.Test.YtegekmdechcikaaERef2
namespace Go.Proofs.Ytegekmdechcikaa
open Go Go.RowKit Go.Sort

set_option maxHeartbeats 2000000 in
theorem ref_valid (f : Flt) (cl : Int) (w : World) :
    Calls Try.prog 73 #[f.val, .int .i64 cl] w fun e w' => e = .returned (.bool (Dv.valid cl f)) ∧ Below w.heap.size w w' := by
  have HB := hid ((Below.refl w.heap.size w).alloc (Nat.le_refl _) (fltObj f))
  unfold Dv.valid
  by_cases hk : f.kind = 1 ∨ f.kind = 2 ∨ f.kind = 3 ∨ f.kind = 5
  · rw [if_pos hk]
    rcases hk with hk | hk | hk | hk
    all_goals
      have hk' := (beq_iff_eq (a := f.kind)).2 hk
      clear hk
      go_enter Try.func73, Try.ntmps73
      go_wp2
      go_ret
      exact ⟨rfl, HB.out⟩
  · rw [if_neg hk]
    have k1 : (f.kind == 1) = false := by rw [beq_eq_false_iff_ne]; omega
    have k2 : (f.kind == 2) = false := by rw [beq_eq_false_iff_ne]; omega
    have k3 : (f.kind == 3) = false := by rw [beq_eq_false_iff_ne]; omega
    have k5 : (f.kind == 5) = false := by rw [beq_eq_false_iff_ne]; omega
    clear hk
    by_cases h7 : f.kind = 7
    · rw [if_pos h7]
      have hk' := (beq_iff_eq (a := f.kind)).2 h7
      have k4 : (f.kind == 4) = false := by rw [beq_eq_false_iff_ne]; omega
      clear h7
      by_cases hs0 : 0 ≤ f.slot
      · have hd : decide (0 ≤ f.slot ∧ f.slot < cl) = decide (f.slot < cl) := by rw [decide_eq_decide]; omega
        rw [hd]
        clear hd
        go_enter Try.func73, Try.ntmps73
        go_wp2
        go_ret
        exact ⟨rfl, HB.out⟩
      · rw [decide_eq_false (by omega)]
        go_enter Try.func73, Try.ntmps73
        go_wp2
        go_ret
        exact ⟨rfl, HB.out⟩
    · rw [if_neg h7]
      have k7 : (f.kind == 7) = false := by rw [beq_eq_false_iff_ne]; omega
      clear h7
      by_cases h4 : f.kind = 4
      · rw [if_pos h4]
        have hk' := (beq_iff_eq (a := f.kind)).2 h4
        clear h4
        by_cases hs0 : 0 ≤ f.slot
        · by_cases hs1 : f.slot < cl
          · by_cases hb0 : 0 ≤ f.bit
            · by_cases hb1 : f.bit < 288
              · by_cases hm0 : 1 ≤ f.mask
                · have hd : decide ((0 ≤ f.slot ∧ f.slot < cl) ∧ 0 ≤ f.bit ∧ f.bit < 288 ∧ 1 ≤ f.mask ∧ f.mask ≤ 4294967295) = decide (f.mask ≤ 4294967295) := by
                    rw [decide_eq_decide]; omega
                  rw [hd]
                  clear hd
                  go_enter Try.func73, Try.ntmps73
                  go_wp2
                  go_ret
                  exact ⟨rfl, HB.out⟩
                · rw [decide_eq_false (by omega)]
                  go_enter Try.func73, Try.ntmps73
                  go_wp2
                  go_ret
                  exact ⟨rfl, HB.out⟩
              · rw [decide_eq_false (by omega)]
                go_enter Try.func73, Try.ntmps73
                go_wp2
                go_ret
                exact ⟨rfl, HB.out⟩
            · rw [decide_eq_false (by omega)]
              go_enter Try.func73, Try.ntmps73
              go_wp2
              go_ret
              exact ⟨rfl, HB.out⟩
          · rw [decide_eq_false (by omega)]
            go_enter Try.func73, Try.ntmps73
            go_wp2
            go_ret
            exact ⟨rfl, HB.out⟩
        · rw [decide_eq_false (by omega)]
          go_enter Try.func73, Try.ntmps73
          go_wp2
          go_ret
          exact ⟨rfl, HB.out⟩
      · rw [if_neg h4]
        have k4 : (f.kind == 4) = false := by rw [beq_eq_false_iff_ne]; omega
        clear h4
        by_cases h6 : f.kind = 6
        · rw [if_pos h6]
          have hk' := (beq_iff_eq (a := f.kind)).2 h6
          clear h6
          by_cases hs0 : 0 ≤ f.dest
          · have hd : decide (0 ≤ f.dest ∧ f.dest < cl) = decide (f.dest < cl) := by rw [decide_eq_decide]; omega
            rw [hd]
            clear hd
            go_enter Try.func73, Try.ntmps73
            go_wp2
            go_ret
            exact ⟨rfl, HB.out⟩
          · rw [decide_eq_false (by omega)]
            go_enter Try.func73, Try.ntmps73
            go_wp2
            go_ret
            exact ⟨rfl, HB.out⟩
        · rw [if_neg h6]
          have k6 : (f.kind == 6) = false := by rw [beq_eq_false_iff_ne]; omega
          clear h6
          go_enter Try.func73, Try.ntmps73
          go_wp2
          go_ret
          exact ⟨rfl, HB.out⟩

theorem str_one (d : ByteArray) : ∀ u ∈ [Value.string d], u.oneCell' = true := by intro u hu; simp at hu; subst hu; rfl
section
variable {w : World} {o p : Own} {a b c : Nat} {pv : Value} {R S : Dv}
set_option maxRecDepth 100000 in
set_option maxHeartbeats 2000000 in
theorem ref_platters (h : DrvB w o p a b c pv R) (hr : Rel R S) (hS : S.Ok) :
    Calls Try.prog 59 #[.pointer (some ⟨a, 0, none⟩)] w fun e w' => ∃ v, e = .returned v ∧ Texts w' (New w) v S.platters ∧ Below w.heap.size w w' := by
  have HH := hid h
  obtain ⟨hl1, hl⟩ := hr.one hS
  have c1 := h.cells.2.1
  have c3 := h.cells.2.2.2.1
  rw [hr.dead] at c3
  cases hd : S.dead
  case true =>
    have hp : S.platters = [] := by unfold Dv.platters; rw [if_pos hd]
    rw [hp]
    rw [hd] at c3
    clear h hr hS hd hp
    go_enter Try.func59, Try.ntmps59
    go_wp2
    go_ret
    exact ⟨_, rfl, OwnSl.nil _ _ _, Below.refl _ _⟩
  case false =>
    have hp : S.platters = R.secs.map Sec.shown := by unfold Dv.platters; rw [if_neg (by simp [hd]), hr.secs hd]; rfl
    rw [hp]
    rw [hd] at c3
    clear h hr hS hd hp
    obtain ⟨i0, hi0, hz0, hz1, hz2⟩ := info_parts Try.info_str
    have halt := HH.out.vals.lt
    have hblt := HH.out.secs.lt
    go_enter Try.func59, Try.ntmps59
    go_wp2_with fail
    go_loopw [3, 4] (fun v i wr => ∃ k : Nat, k ≤ R.secs.length ∧ i = .int .i64 k ∧ OwnSl wr (New w) 1 v k (strs ((R.secs.map Sec.shown).take k)) ∧ Below w.heap.size w wr) (fun _ i _ => (R.secs.length - intOf i).toNat)
    case atStart => exact ⟨0, Nat.zero_le _, rfl, OwnSl.nil _ _ _, Below.refl _ _⟩
    case round =>
      obtain ⟨k, hk, rfl, hv, hg⟩ := hrel
      obtain ⟨A, cap, rfl, hcap⟩ := hv.form
      have hcr := (hg.cell (p := ⟨a, 1, none⟩) halt).trans c1
      by_cases hlt : k < R.secs.length
      · have hs1 := HH.out.secs.below hg hblt
        obtain ⟨e0, e1, e2⟩ := hs1.cells k hlt
        obtain ⟨sd, su, sm, hsec⟩ : ∃ sd su sm, R.secs[k] = ⟨sd, su, sm⟩ := ⟨_, _, _, rfl⟩
        rw [hsec] at e0 e1 e2
        dsimp only at e0 e1 e2
        have hnext : strs ((R.secs.map Sec.shown).take (k + 1)) = strs ((R.secs.map Sec.shown).take k) ++ [Value.string (Sec.shown ⟨sd, su, sm⟩)] := by
          rw [List.take_succ_eq_append_getElem (by simpa using hlt), List.getElem_map, hsec]; simp [strs]
        have HN := hid hnext
        have HV := hid hv
        have HG := hid hg
        have hgs := hg.size
        clear hv hg hs1 hsec hnext
        cases su
        case true =>
          go_wp2_with (at_builtin; refine wpList_append_sl (by rfl) (.tmp 35) (.tmp 37) 62 (by rfl) 9 i0 _ 1 16 Try.underlying62 hi0 hz0 hz1 hz2 rfl (by decide) (New w) _ (.slice (some ⟨wr.heap.size, 0, none⟩) 1 1) k 1 (strs ((R.secs.map Sec.shown).take k)) [.string ⟨#[]⟩] (by rfl) (by rfl) (HV.out.below ((Below.refl _ _).alloc (Nat.le_refl _) _)) ⟨rfl, .inr ⟨_, 1, rfl, World.news_of_block (cs := #[.string ⟨#[]⟩]) (fr := (0, 0)) (heap_alloc_new wr _)⟩⟩ (str_one _) (by unfold maxLen; omega) (by omega) ?_)
          intro v3 w3 hown3 hgrow
          have hb3 : Below w.heap.size w w3 := (HG.out.alloc hgs _).trans (hgrow.below (fun k e => e) (by simp; omega))
          have hown4 := hid (show OwnSl w3 (New w) 1 v3 (k + 1) (strs ((R.secs.map Sec.shown).take (k + 1))) by rw [HN.out]; exact hown3.mono (fun x e => by rcases e with e | e; exact e; simp at e; unfold New; omega))
          clear hown3 hgrow
          go_wp2
          go_roundw
          case rel => exact ⟨k + 1, by omega, by go_num, hown4.out, hb3⟩
          case measure => (simp [intOf]; try omega)
        case false =>
          go_wp2_with (at_builtin; refine wpList_append_sl (by rfl) (.tmp 35) (.tmp 37) 62 (by rfl) 9 i0 _ 1 16 Try.underlying62 hi0 hz0 hz1 hz2 rfl (by decide) (New w) _ (.slice (some ⟨wr.heap.size, 0, none⟩) 1 1) k 1 (strs ((R.secs.map Sec.shown).take k)) [.string sd] (by rfl) (by rfl) (HV.out.below ((Below.refl _ _).alloc (Nat.le_refl _) _)) ⟨rfl, .inr ⟨_, 1, rfl, World.news_of_block (cs := #[.string sd]) (fr := (0, 0)) (heap_alloc_new wr _)⟩⟩ (str_one _) (by unfold maxLen; omega) (by omega) ?_)
          intro v3 w3 hown3 hgrow
          have hb3 : Below w.heap.size w w3 := (HG.out.alloc hgs _).trans (hgrow.below (fun k e => e) (by simp; omega))
          have hown4 := hid (show OwnSl w3 (New w) 1 v3 (k + 1) (strs ((R.secs.map Sec.shown).take (k + 1))) by rw [HN.out]; exact hown3.mono (fun x e => by rcases e with e | e; exact e; simp at e; unfold New; omega))
          clear hown3 hgrow
          go_wp2
          go_roundw
          case rel => exact ⟨k + 1, by omega, by go_num, hown4.out, hb3⟩
          case measure => (simp [intOf]; try omega)
      · obtain rfl : k = R.secs.length := by omega
        rw [List.take_of_length_le (by simp)] at hv
        have HV := hid hv
        clear hv
        go_wp2
        go_ret
        refine ⟨_, rfl, ?_, hg⟩
        unfold Texts
        simpa using HV.out
end
end Go.Proofs.Ytegekmdechcikaa
