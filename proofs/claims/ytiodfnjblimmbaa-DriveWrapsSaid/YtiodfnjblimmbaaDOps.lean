/- The small methods of the drive, Read, Write without pending faults, Fence, Status. -/
import Derived.Test.YtiodfnjblimmbaaDNew
namespace Go.Proofs.Ytiodfnjblimmbaa
open Go Go.RowKit Go.Sort

/-- All but the blocks a and b is as it was. -/
structure Keep (a b : Nat) (w w' : World) : Prop where
  os : w'.os = w.os
  tape : w'.tape = w.tape
  output : w'.output = w.output
  size : w.heap.size ≤ w'.heap.size
  block : ∀ k, k < w.heap.size → k ≠ a → k ≠ b → w'.heap[k]? = w.heap[k]?
theorem Keep.refl (a b : Nat) (w : World) : Keep a b w w := ⟨rfl, rfl, rfl, Nat.le_refl _, fun _ _ _ _ => rfl⟩
theorem Keep.trans {a b : Nat} {w w1 w2 : World} (h : Keep a b w w1) (k : Keep a b w1 w2) : Keep a b w w2 :=
  ⟨k.os.trans h.os, k.tape.trans h.tape, k.output.trans h.output, Nat.le_trans h.size k.size, fun i hi ha hb => (k.block i (Nat.lt_of_lt_of_le hi h.size) ha hb).trans (h.block i hi ha hb)⟩
theorem Keep.setCell {a b : Nat} {w w1 : World} (h : Keep a b w w1) (c : Addr) (v : Value) (hc : c.block = a ∨ c.block = b) : Keep a b w (w1.setCell c v) :=
  ⟨h.os, h.tape, h.output, by simpa using h.size, fun k hk ha hb => (Below.heap_setCell w1 c v k (by rcases hc with e | e <;> rw [e] <;> assumption)).trans (h.block k hk ha hb)⟩
theorem Keep.setCells {a b : Nat} {w : World} : ∀ (cs : List Value) (o : Nat) (w1 : World), Keep a b w w1 → Keep a b w (w1.setCells b o cs)
  | [], _, _, h => h
  | v :: r, o, _, h => Keep.setCells r (o + 1) _ (h.setCell ⟨b, o, none⟩ v (.inr rfl))
theorem Keep.ofBelow {a b : Nat} {w w1 w2 : World} (h : Keep a b w w1) (k : Below w1.heap.size w1 w2) : Keep a b w w2 :=
  h.trans ⟨k.os, k.tape, k.output, k.size, fun i hi _ _ => k.block i hi⟩
theorem Keep.below {a b B : Nat} {w w' : World} (h : Keep a b w w') (ha : B ≤ a) (hb : B ≤ b) (hB : B ≤ w.heap.size) : Below B w w' :=
  ⟨h.os, h.tape, h.output, h.size, fun k hk => h.block k (by omega) (by omega) (by omega)⟩

/-- Does it answer? -/
def DS.gone (S : DS) : Bool := S.dead || S.secs.length == 0
def DS.online (S : DS) : Bool := !S.gone && !S.off
def DS.slot (S : DS) (s : Int) : Bool := decide (0 ≤ s ∧ s < S.claim)
/-- The sector of a slot. -/
def DS.at (S : DS) (s : Int) : Nat := (s % (S.secs.length : Int)).toNat
def DS.get (S : DS) (s : Int) : Sec := S.secs.getD (S.at s) rawSec

theorem len_zero (n : Nat) : ((n : Int) == 0) = (n == 0) := by rw [Bool.eq_iff_iff]; simp

section
variable {w : World} {a b : Nat} {S : DS} {pv : Value}
theorem gone_any (h : DrvAt w a b S pv) :
    Calls Try.prog 43 #[.pointer (some ⟨a, 0, none⟩)] w fun e w' => e = .returned (.bool S.gone) ∧ w = w' := by
  obtain ⟨c0, c1, c2, c3, c4, c5⟩ := h.cells
  unfold DS.gone
  cases hd : S.dead
  · rw [hd] at c3
    go_enter Try.func43, Try.ntmps43
    go_wp2
    go_ret
    exact ⟨by rw [Bool.false_or, ← len_zero]; simp, rfl⟩
  · rw [hd] at c3
    go_enter Try.func43, Try.ntmps43
    go_wp2
    go_ret
    exact ⟨by simp, rfl⟩
theorem online_any (h : DrvAt w a b S pv) :
    Calls Try.prog 38 #[.pointer (some ⟨a, 0, none⟩)] w fun e w' => e = .returned (.bool S.online) ∧ w = w' := by
  obtain ⟨c0, c1, c2, c3, c4, c5⟩ := h.cells
  unfold DS.online
  cases hg : S.gone
  · go_enter Try.func38, Try.ntmps38
    go_wp2_with (go_at_call 43; refine (gone_any h).mono ?_; rintro e w' ⟨rfl, rfl⟩; rw [hg])
    go_ret
    exact ⟨by simp, rfl⟩
  · go_enter Try.func38, Try.ntmps38
    go_wp2_with (go_at_call 43; refine (gone_any h).mono ?_; rintro e w' ⟨rfl, rfl⟩; rw [hg])
    go_ret
    exact ⟨by simp, rfl⟩
theorem claim_any (h : DrvAt w a b S pv) :
    Calls Try.prog 34 #[.pointer (some ⟨a, 0, none⟩)] w fun e w' => e = .returned (.int .i64 S.claim) ∧ w = w' := by
  obtain ⟨c0, c1, c2, c3, c4, c5⟩ := h.cells
  go_enter Try.func34, Try.ntmps34
  go_wp2
  go_ret
  exact ⟨rfl, rfl⟩
theorem slot_any (h : DrvAt w a b S pv) (s : Int) :
    Calls Try.prog 39 #[.pointer (some ⟨a, 0, none⟩), .int .i64 s] w fun e w' => e = .returned (.bool (S.slot s)) ∧ w = w' := by
  unfold DS.slot
  by_cases h0 : 0 ≤ s
  · go_enter Try.func39, Try.ntmps39
    go_wp2_with (go_at_call 34; refine (claim_any h).mono ?_; rintro e w' ⟨rfl, rfl⟩)
    go_ret
    exact ⟨by simp [h0], rfl⟩
  · go_enter Try.func39, Try.ntmps39
    go_wp2_with (go_at_call 34; refine (claim_any h).mono ?_; rintro e w' ⟨rfl, rfl⟩)
    go_ret
    exact ⟨by rw [decide_eq_false (by omega)]; rfl, rfl⟩
theorem cell_any (h : DrvAt w a b S pv) (s : Int) (hs : 0 ≤ s) (hl : 0 < S.secs.length) (hm : S.secs.length ≤ 1000000) :
    Calls Try.prog 40 #[.pointer (some ⟨a, 0, none⟩), .int .i64 s] w fun e w' => e = .returned (.pointer (some ⟨b, S.at s * 3, none⟩)) ∧ ∃ n, w' = w.drewN n := by
  obtain ⟨c0, c1, c2, c3, c4, c5⟩ := h.cells
  have ht : s.tmod (S.secs.length : Int) = ((S.at s : Nat) : Int) := by
    unfold DS.at
    rw [Int.tmod_eq_emod_of_nonneg hs, Int.toNat_of_nonneg (Int.emod_nonneg _ (by omega))]
  have hlt : S.at s < S.secs.length := by
    unfold DS.at
    have := Int.emod_lt_of_pos s (show (0 : Int) < S.secs.length by omega)
    have := Int.emod_nonneg s (show (S.secs.length : Int) ≠ 0 by omega)
    omega
  generalize S.at s = k at *
  go_enter Try.func40, Try.ntmps40
  go_wp2_with fail
  go_big_quiet (fail)
  go_wp2
  go_ret
  exact ⟨rfl, nq, rfl⟩
end
end Go.Proofs.Ytiodfnjblimmbaa
