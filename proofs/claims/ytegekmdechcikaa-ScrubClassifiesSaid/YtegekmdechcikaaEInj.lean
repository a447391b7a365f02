/- allowed, flip of a cell, Inject. -/
import Derived.Test.YtegekmdechcikaaEWrite2
namespace Go.Proofs.Ytegekmdechcikaa
open Go Go.RowKit Go.Sort

theorem flt_one (f : Flt) : (#[Value.int .i64 f.kind, .int .i64 f.slot, .int .i64 f.bit, .int .i64 f.mask, .int .i64 f.dest]).all (·.oneCell') = true := by kernel_rfl
section
variable {w : World} {o p : Own} {a b c : Nat} {pv : Value} {S : Dv}
set_option maxHeartbeats 2000000 in
theorem allowed_any (h : DrvB w o p a b c pv S) (f : Flt) :
    Calls Try.prog 46 #[.pointer (some ⟨a, 0, none⟩), f.val] w fun e w' => e = .returned (.bool (Dv.valid S.claim f)) ∧ Below w.heap.size w w' := by
  have HB := hid ((Below.refl w.heap.size w).alloc (Nat.le_refl _) (.cells #[.int .i64 f.kind, .int .i64 f.slot, .int .i64 f.bit, .int .i64 f.mask, .int .i64 f.dest] 43))
  have H1 := hid (h.below HB.out)
  clear h
  unfold Dv.valid
  by_cases hk : f.kind = 1 ∨ f.kind = 2 ∨ f.kind = 3 ∨ f.kind = 5
  · rw [if_pos hk]
    rcases hk with hk | hk | hk | hk
    all_goals
      have hk' := (beq_iff_eq (a := f.kind)).2 hk
      clear hk
      go_enter Try.func46, Try.ntmps46
      go_wp2
      go_ret
      exact ⟨rfl, HB.out⟩
  · rw [if_neg hk]
    have k1 : (f.kind == 1) = false := by rw [beq_eq_false_iff_ne]; omega
    have k2 : (f.kind == 2) = false := by rw [beq_eq_false_iff_ne]; omega
    have k3 : (f.kind == 3) = false := by rw [beq_eq_false_iff_ne]; omega
    have k5 : (f.kind == 5) = false := by rw [beq_eq_false_iff_ne]; omega
    clear hk
    by_cases h7 : f.kind = 7
    · rw [if_pos h7]
      have hk' := (beq_iff_eq (a := f.kind)).2 h7
      clear h7
      go_enter Try.func46, Try.ntmps46
      go_wp2_with (go_at_call 43; refine (slot_any H1.out f.slot).mono ?_; rintro e w' ⟨rfl, rfl⟩)
      go_ret
      exact ⟨rfl, HB.out⟩
    · rw [if_neg h7]
      have k7 : (f.kind == 7) = false := by rw [beq_eq_false_iff_ne]; omega
      clear h7
      by_cases h4 : f.kind = 4
      · rw [if_pos h4]
        have hk' := (beq_iff_eq (a := f.kind)).2 h4
        clear h4
        have hsl : S.slot f.slot = decide (0 ≤ f.slot ∧ f.slot < S.claim) := rfl
        by_cases hs : 0 ≤ f.slot ∧ f.slot < S.claim
        · have hs' : S.slot f.slot = true := by rw [hsl, decide_eq_true hs]
          have HSL := hid hs'
          clear hsl hs'
          by_cases hb0 : 0 ≤ f.bit
          · by_cases hb1 : f.bit < 288
            · by_cases hm0 : 1 ≤ f.mask
              · have hd : decide ((0 ≤ f.slot ∧ f.slot < S.claim) ∧ 0 ≤ f.bit ∧ f.bit < 288 ∧ 1 ≤ f.mask ∧ f.mask ≤ 4294967295) = decide (f.mask ≤ 4294967295) := by
                  rw [decide_eq_decide]; omega
                rw [hd]
                clear hd hs
                go_enter Try.func46, Try.ntmps46
                go_wp2_with (go_at_call 43; refine (slot_any H1.out f.slot).mono ?_; rintro e w' ⟨rfl, rfl⟩; rw [HSL.out])
                go_ret
                exact ⟨rfl, HB.out⟩
              · rw [decide_eq_false (by omega)]
                clear hs
                go_enter Try.func46, Try.ntmps46
                go_wp2_with (go_at_call 43; refine (slot_any H1.out f.slot).mono ?_; rintro e w' ⟨rfl, rfl⟩; rw [HSL.out])
                go_ret
                exact ⟨rfl, HB.out⟩
            · rw [decide_eq_false (by omega)]
              clear hs
              go_enter Try.func46, Try.ntmps46
              go_wp2_with (go_at_call 43; refine (slot_any H1.out f.slot).mono ?_; rintro e w' ⟨rfl, rfl⟩; rw [HSL.out])
              go_ret
              exact ⟨rfl, HB.out⟩
          · rw [decide_eq_false (by omega)]
            clear hs
            go_enter Try.func46, Try.ntmps46
            go_wp2_with (go_at_call 43; refine (slot_any H1.out f.slot).mono ?_; rintro e w' ⟨rfl, rfl⟩; rw [HSL.out])
            go_ret
            exact ⟨rfl, HB.out⟩
        · have hs' : S.slot f.slot = false := by rw [hsl, decide_eq_false hs]
          have HSL := hid hs'
          rw [decide_eq_false (by omega)]
          clear hsl hs' hs
          go_enter Try.func46, Try.ntmps46
          go_wp2_with (go_at_call 43; refine (slot_any H1.out f.slot).mono ?_; rintro e w' ⟨rfl, rfl⟩; rw [HSL.out])
          go_ret
          exact ⟨rfl, HB.out⟩
      · rw [if_neg h4]
        have k4 : (f.kind == 4) = false := by rw [beq_eq_false_iff_ne]; omega
        clear h4
        by_cases h6 : f.kind = 6
        · rw [if_pos h6]
          have hk' := (beq_iff_eq (a := f.kind)).2 h6
          clear h6
          go_enter Try.func46, Try.ntmps46
          go_wp2_with (go_at_call 43; refine (slot_any H1.out f.dest).mono ?_; rintro e w' ⟨rfl, rfl⟩)
          go_ret
          exact ⟨rfl, HB.out⟩
        · rw [if_neg h6]
          have k6 : (f.kind == 6) = false := by rw [beq_eq_false_iff_ne]; omega
          clear h6
          go_enter Try.func46, Try.ntmps46
          go_wp2
          go_ret
          exact ⟨rfl, HB.out⟩
end
end Go.Proofs.Ytegekmdechcikaa
