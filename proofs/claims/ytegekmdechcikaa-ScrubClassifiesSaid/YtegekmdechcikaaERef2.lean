/- Read, Valid, Platters of the reference's drive. -/
import Derived.Test.YtegekmdechcikaaERef
namespace Go.Proofs.Ytegekmdechcikaa
open Go Go.RowKit Go.Sort

theorem quiet_plus {P : Program} {f : FuncId} {args : Array Value} {w : World} {a n : Nat} {v : Value}
    (h : Calls P f args (w.drewN (a + n)) fun e w' => e = .returned v ∧ w.drewN (a + n) = w') : Calls P f args (w.drewN (a + n)) fun e w'' => e = .returned v ∧ ∃ m, w'' = w.drewN (a + m) :=
  h.mono fun _ _ ⟨he, hm⟩ => ⟨he, n, hm.symm⟩
section
variable {w : World} {o p : Own} {a b c : Nat} {pv : Value} {R S : Dv}
set_option maxHeartbeats 1000000 in
theorem ref_read (h : DrvB w o p a b c pv R) (hr : Rel R S) (hS : S.Ok) (s : Int) :
    Calls Try.prog 56 #[.pointer (some ⟨a, 0, none⟩), .int .i64 s] w fun e w' => e = .returned (.tuple #[.string (S.read s).1, .int .i64 (S.read s).2]) ∧ ∃ n, w' = w.drewN n := by
  obtain ⟨c0, c1, c2, c3, c4, c5⟩ := h.cells
  rw [hr.claim] at c0
  rw [hr.on] at c2
  have HH := hid h
  have HS := hid hS
  have HR := hid hr
  clear h hS hr c3 c4 c5
  unfold Dv.read
  cases ho : S.online
  · rw [ho] at c2
    clear ho
    go_enter Try.func56, Try.ntmps56
    go_wp2
    go_ret2
    exact ⟨rfl, 0, rfl⟩
  · rw [ho] at c2
    have HD := hid (online_live ho)
    clear ho
    by_cases h0 : s < 0
    · have hsl : S.slot s = false := by unfold Dv.slot; rw [decide_eq_false]; omega
      rw [hsl]
      clear hsl
      go_enter Try.func56, Try.ntmps56
      go_wp2
      go_ret2
      exact ⟨rfl, 0, rfl⟩
    · by_cases h1 : S.claim ≤ s
      · have hsl : S.slot s = false := by unfold Dv.slot; rw [decide_eq_false]; omega
        rw [hsl]
        clear hsl
        go_enter Try.func56, Try.ntmps56
        go_wp2
        go_ret2
        exact ⟨rfl, 0, rfl⟩
      · have hsl : S.slot s = true := by unfold Dv.slot; rw [decide_eq_true]; omega
        rw [hsl]
        clear hsl
        have hlt := HR.out.lt HS.out s
        have hs0 : 0 ≤ s := by omega
        have hget : S.get s = R.secs[S.at_ s] := by
          rw [S.get_eq HS.out]
          congr 1
          exact (HR.out.secs HD.out).symm
        obtain ⟨sd, su, sm, hsec⟩ : ∃ sd su sm, S.get s = ⟨sd, su, sm⟩ := ⟨_, _, _, rfl⟩
        have hcs : ∀ n, (w.drewN n).cell? ⟨b, S.at_ s * 3, none⟩ = some (.string sd) ∧ (w.drewN n).cell? ⟨b, S.at_ s * 3 + 1, none⟩ = some (.bool su) := by
          intro n
          obtain ⟨c0, c1, _⟩ := (HH.out.drewN n).secs.cells (S.at_ s) hlt
          rw [← hget, hsec] at c0 c1
          exact ⟨c0, c1⟩
        rw [hsec]
        clear hget hsec
        have hx0 : (0 : Int) ≤ ((S.at_ s : Nat) : Int) := by omega
        have hx1 : ((S.at_ s : Nat) : Int) < (R.secs.length : Int) := by omega
        have hat := fun W (hW : DrvB W o p a b c pv R) => at_any hW HR.out HS.out s hs0
        have HAT := hid hat
        clear hat
        obtain ⟨e0, e1⟩ := hcs 0
        change w.cell? _ = _ at e0
        change w.cell? _ = _ at e1
        clear hcs
        generalize S.at_ s = k at *
        cases su
        · go_enter Try.func56, Try.ntmps56
          go_upto_region 5 with fail
          go_quiet ((go_at_call 71; exact quiet_left (HAT.out _ (HH.out.drewN _))))
          go_wp2_with fail
          go_upto_region 7 with fail
          go_quiet ((go_at_call 71; exact quiet_plus (HAT.out _ (HH.out.drewN _))))
          go_wp2
          go_ret2
          exact ⟨rfl, _, rfl⟩
        · go_enter Try.func56, Try.ntmps56
          go_upto_region 5 with fail
          go_quiet ((go_at_call 71; exact quiet_left (HAT.out _ (HH.out.drewN _))))
          go_wp2
          go_ret2
          exact ⟨rfl, _, rfl⟩
end
end Go.Proofs.Ytegekmdechcikaa
