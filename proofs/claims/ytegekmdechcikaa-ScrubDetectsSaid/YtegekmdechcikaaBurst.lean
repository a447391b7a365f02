/- The checksum finds every burst: plain mathematics of the remainder. -/
import Derived.Test.YtegekmdechcikaaFlipPlain
namespace Go.Proofs.Ytegekmdechcikaa
open Go

theorem crcStep_xor (a b : BitVec 32) : crcStep (a ^^^ b) = crcStep a ^^^ crcStep b := by
  unfold crcStep
  rw [BitVec.shiftLeft_xor_distrib, BitVec.msb_xor]
  have hp : (517762881#32 ^^^ 517762881#32 : BitVec 32) = 0#32 := rfl
  cases a.msb <;> cases b.msb
  · simp
  · show a <<< 1 ^^^ b <<< 1 ^^^ 517762881#32 = (a <<< 1 ^^^ 0#32) ^^^ (b <<< 1 ^^^ 517762881#32)
    rw [BitVec.xor_zero]; ac_rfl
  · show a <<< 1 ^^^ b <<< 1 ^^^ 517762881#32 = (a <<< 1 ^^^ 517762881#32) ^^^ (b <<< 1 ^^^ 0#32)
    rw [BitVec.xor_zero]; ac_rfl
  · show a <<< 1 ^^^ b <<< 1 ^^^ 0#32 = (a <<< 1 ^^^ 517762881#32) ^^^ (b <<< 1 ^^^ 517762881#32)
    rw [show a <<< 1 ^^^ 517762881#32 ^^^ (b <<< 1 ^^^ 517762881#32) = (a <<< 1 ^^^ b <<< 1) ^^^ (517762881#32 ^^^ 517762881#32) by ac_rfl, hp]
theorem crcStep_zero : crcStep 0#32 = 0#32 := rfl
theorem crcStep_inj (a : BitVec 32) (h : crcStep a = 0#32) : a = 0#32 := by
  unfold crcStep at h
  cases hm : a.msb
  · rw [hm] at h
    simp at h
    apply BitVec.eq_of_getLsbD_eq
    intro i hi
    rw [BitVec.getLsbD_zero]
    by_cases h31 : i = 31
    · subst h31
      rw [BitVec.msb_eq_getLsbD_last] at hm
      simpa using hm
    · have := congrArg (fun x => x.getLsbD (i + 1)) h
      simp [BitVec.getLsbD_shiftLeft] at this
      exact this (by omega)
  · rw [hm] at h
    simp at h
    have := congrArg (fun x => x.getLsbD 0) h
    simp at this
theorem crcSteps_xor (n : Nat) (a b : BitVec 32) : crcSteps n (a ^^^ b) = crcSteps n a ^^^ crcSteps n b := by
  induction n with
  | zero => rfl
  | succ n ih => rw [crcSteps, crcSteps, crcSteps, ih, crcStep_xor]
theorem crcSteps_zero (n : Nat) : crcSteps n 0#32 = 0#32 := by
  induction n with
  | zero => rfl
  | succ n ih => rw [crcSteps, ih]; rfl
theorem crcSteps_inj (n : Nat) (a : BitVec 32) (h : crcSteps n a = 0#32) : a = 0#32 := by
  induction n with
  | zero => exact h
  | succ n ih => exact ih (crcStep_inj _ h)
theorem crcSteps_succ (n : Nat) (a : BitVec 32) : crcSteps (n + 1) a = crcSteps n (crcStep a) := by
  induction n with
  | zero => rfl
  | succ n ih => rw [crcSteps, ih, crcSteps]

/-- One bit comes in. -/
def top (b : Bool) : BitVec 32 := if b then 0x80000000#32 else 0#32
def feed (r : BitVec 32) (b : Bool) : BitVec 32 := crcStep (r ^^^ top b)
def feeds (r : BitVec 32) (l : List Bool) : BitVec 32 := l.foldl feed r
theorem top_xor (a b : Bool) : top (a ^^ b) = top a ^^^ top b := by cases a <;> cases b <;> rfl
theorem feeds_append (r : BitVec 32) (a b : List Bool) : feeds r (a ++ b) = feeds (feeds r a) b := List.foldl_append
theorem feeds_xor : ∀ (a b : List Bool) (r q : BitVec 32), a.length = b.length → feeds (r ^^^ q) (List.zipWith (· ^^ ·) a b) = feeds r a ^^^ feeds q b
  | [], [], _, _, _ => rfl
  | x :: a, y :: b, r, q, h => by
    show feeds (feed (r ^^^ q) (x ^^ y)) (List.zipWith (· ^^ ·) a b) = feeds (feed r x) a ^^^ feeds (feed q y) b
    have e : feed (r ^^^ q) (x ^^ y) = feed r x ^^^ feed q y := by
      unfold feed
      rw [← crcStep_xor, top_xor]
      congr 1
      ac_rfl
    rw [e]
    exact feeds_xor a b _ _ (by simpa using h)
  | [], _ :: _, _, _, h => by simp at h
  | _ :: _, [], _, _, h => by simp at h
theorem feeds_zeros (n : Nat) (r : BitVec 32) : feeds r (List.replicate n false) = crcSteps n r := by
  induction n generalizing r with
  | zero => rfl
  | succ n ih =>
    rw [List.replicate_succ, crcSteps_succ]
    show feeds (feed r false) _ = _
    rw [ih]
    unfold feed top
    simp
theorem crcStep_word (v : BitVec 32) : crcStep v = crcStep (top v.msb) ^^^ (v <<< 1) := by
  unfold crcStep top
  cases v.msb
  · simp
  · simp [BitVec.xor_comm]
    rfl
/-- The first n bits of a word come in, the other ones being 0. -/
theorem feeds_word (n : Nat) : ∀ (v r : BitVec 32), v <<< n = 0#32 → feeds r ((List.range n).map v.getMsbD) = crcSteps n (r ^^^ v) := by
  induction n with
  | zero =>
    intro v r h
    rw [BitVec.shiftLeft_zero] at h
    subst h
    simp [feeds, crcSteps]
  | succ n ih =>
    intro v r h
    have hs : (v <<< 1) <<< n = 0#32 := by rw [← BitVec.shiftLeft_add, Nat.add_comm]; exact h
    have hm : ((List.range (n + 1)).map v.getMsbD) = v.msb :: ((List.range n).map (v <<< 1).getMsbD) := by
      rw [List.range_succ_eq_map, List.map_cons, List.map_map]
      congr 1
      apply List.map_congr_left
      intro i _
      simp [BitVec.getMsbD_shiftLeft]
    rw [hm, crcSteps_succ]
    show feeds (feed r v.msb) _ = _
    rw [ih _ _ hs]
    congr 1
    unfold feed
    rw [crcStep_xor r v, crcStep_word v, crcStep_xor, BitVec.xor_assoc]
/-- The word of 32 given bits. -/
def wordN (g : Nat → Bool) : Nat → BitVec 32
  | 0 => 0#32
  | n + 1 => wordN g n ||| (if g n then BitVec.twoPow 32 (31 - n) else 0#32)
theorem wordN_bit (g : Nat → Bool) (i : Nat) (hi : i < 32) : ∀ n, n ≤ 32 → (wordN g n).getMsbD i = (decide (i < n) && g i)
  | 0, _ => by simp [wordN]
  | n + 1, hn => by
    rw [wordN, BitVec.getMsbD_or, wordN_bit g i hi n (by omega)]
    have hb : (if g n then BitVec.twoPow 32 (31 - n) else 0#32).getMsbD i = (decide (i = n) && g i) := by
      by_cases hg : g n = true
      · rw [if_pos hg, BitVec.getMsbD_eq_getLsbD, BitVec.getLsbD_twoPow, decide_eq_true hi, Bool.true_and]
        by_cases hin : i = n
        · subst hin
          rw [hg, decide_eq_true (by omega), decide_eq_true (by omega), decide_eq_true rfl]
        · rw [decide_eq_false (by omega : ¬ 31 - n = 32 - 1 - i), decide_eq_false hin]; simp
      · rw [if_neg hg]
        by_cases hin : i = n
        · subst hin
          have : g i = false := by simpa using hg
          rw [this]; simp
        · rw [decide_eq_false hin]; simp
    rw [hb, show decide (i < n + 1) = (decide (i < n) || decide (i = n)) by (rw [Bool.eq_iff_iff]; simp; omega)]
    cases decide (i < n) <;> cases decide (i = n) <;> cases g i <;> rfl
/-- Bits that differ from 0 within 32 places only leave a register that is not 0. -/
theorem window_zero (e : List Bool) (k : Nat) (h : ∀ i : Nat, i < k ∨ k + 32 ≤ i → e[i]?.getD false = false) (hz : feeds 0#32 e = 0#32) : ∀ i : Nat, e[i]?.getD false = false := by
  obtain ⟨v, hv⟩ : ∃ v : BitVec 32, ∀ i, i < 32 → v.getMsbD i = e[k + i]?.getD false := by
    refine ⟨wordN (fun i => e[k + i]?.getD false) 32, fun i hi => ?_⟩
    rw [wordN_bit _ i hi 32 (Nat.le_refl _), decide_eq_true hi, Bool.true_and]
  have hall : e ++ List.replicate (k + 32) false = List.replicate k false ++ (((List.range 32).map v.getMsbD) ++ List.replicate e.length false) := by
    apply List.ext_getElem?
    intro i
    have hL : (e ++ List.replicate (k + 32) false)[i]? = if i < e.length + (k + 32) then some (e[i]?.getD false) else none := by
      rw [List.getElem?_append]
      by_cases h1 : i < e.length
      · rw [if_pos h1, if_pos (by omega), List.getElem?_eq_getElem h1]; rfl
      · rw [if_neg h1, List.getElem?_replicate]
        by_cases h2 : i < e.length + (k + 32)
        · rw [if_pos (by omega), if_pos h2, List.getElem?_eq_none (by omega)]; rfl
        · rw [if_neg (by omega), if_neg h2]
    have hR : (List.replicate k false ++ (((List.range 32).map v.getMsbD) ++ List.replicate e.length false))[i]? = if i < e.length + (k + 32) then some (e[i]?.getD false) else none := by
      rw [List.getElem?_append, List.length_replicate]
      by_cases h1 : i < k
      · rw [if_pos h1, if_pos (by omega), List.getElem?_replicate, if_pos h1, h i (Or.inl h1)]
      · rw [if_neg h1, List.getElem?_append, List.length_map, List.length_range]
        by_cases h2 : i - k < 32
        · rw [if_pos h2, if_pos (by omega), List.getElem?_map, List.getElem?_range h2]
          simp only [Option.map_some]
          rw [hv _ h2, show k + (i - k) = i by omega]
        · rw [if_neg h2, List.getElem?_replicate]
          by_cases h3 : i < e.length + (k + 32)
          · rw [if_pos (by omega), if_pos h3, h i (Or.inr (by omega))]
          · rw [if_neg (by omega), if_neg h3]
    rw [hL, hR]
  have hf := congrArg (feeds 0#32) hall
  rw [feeds_append, hz, feeds_zeros, crcSteps_zero, feeds_append, feeds_zeros, crcSteps_zero, feeds_append, feeds_zeros, feeds_word 32 v _ (by simp)] at hf
  have hv0 : v = 0#32 := by
    have := crcSteps_inj _ _ (crcSteps_inj _ _ hf.symm)
    simpa using this
  intro i
  by_cases hi : i < k ∨ k + 32 ≤ i
  · exact h i hi
  · have := hv (i - k) (by omega)
    rw [hv0, show k + (i - k) = i by omega] at this
    simpa using this.symm
end Go.Proofs.Ytegekmdechcikaa
