/- Flips of bits, in plain terms. -/
import Derived.Test.YtegekmdechcikaaPlain
namespace Go.Proofs.Ytegekmdechcikaa
open Go

/-- The byte in which only the r-th bit from the top is set. -/
def topBit (r : Nat) : UInt8 := UInt8.ofNat (128 / 2 ^ r)
def flipAt (l : List UInt8) (p : Nat) : List UInt8 := l.set (p / 8) (l.getD (p / 8) 0 ^^^ topBit (p % 8))
/-- The first k bits of the mask, laid from a bit on. -/
def flipL (l : List UInt8) (bit : Nat) (m : BitVec 32) : Nat → List UInt8
  | 0 => l
  | k + 1 => if m.getLsbD (31 - k) = true ∧ bit + k < 8 * l.length then flipAt (flipL l bit m k) (bit + k) else flipL l bit m k
theorem flipAt_length (l : List UInt8) (p : Nat) : (flipAt l p).length = l.length := by simp [flipAt]
theorem flipL_length (l : List UInt8) (bit : Nat) (m : BitVec 32) (k : Nat) : (flipL l bit m k).length = l.length := by
  induction k with
  | zero => rfl
  | succ k ih =>
    rw [flipL]
    split
    · rw [flipAt_length, ih]
    · exact ih
theorem topBit_toNat (r : Nat) (h : r < 8) : ((topBit r).toNat : Int) = 128 / 2 ^ r := by
  rcases r with _ | _ | _ | _ | _ | _ | _ | _ | r <;> first | rfl | omega
theorem wrap_u8_nat (n : Nat) (h : n < 256) : IntKind.u8.wrap (n : Int) = n := by
  simp [IntKind.wrap, IntKind.bits, IntKind.signed]
  omega
theorem xor_u8 (a b : UInt8) : bits .xor .u8 (a.toNat : Int) (b.toNat : Int) = ((a ^^^ b).toNat : Int) := by
  show IntKind.u8.wrap ((BitVec.ofInt 8 (a.toNat : Int) ^^^ BitVec.ofInt 8 (b.toNat : Int)).toNat : Int) = _
  have e : ∀ c : UInt8, BitVec.ofInt 8 (c.toNat : Int) = c.toBitVec := fun c => by
    apply BitVec.eq_of_toNat_eq
    have := c.toNat_lt
    simp
  rw [e, e]
  exact wrap_u8_nat _ (a.toBitVec ^^^ b.toBitVec).isLt
theorem and1_u32 (m : BitVec 32) (j : Nat) : bits .and .u32 ((m.toNat : Int) / 2 ^ j) 1 = if m.getLsbD j = true then 1 else 0 := by
  have e : ((m.toNat : Int) / 2 ^ j) = ((m >>> j).toNat : Int) := by
    rw [BitVec.toNat_ushiftRight, Nat.shiftRight_eq_div_pow]
    simp
  have e1 : (1 : Int) = ((1#32).toNat : Int) := rfl
  show IntKind.u32.wrap ((BitVec.ofInt 32 ((m.toNat : Int) / 2 ^ j) &&& BitVec.ofInt 32 1).toNat : Int) = _
  rw [e, ofInt_bv, show BitVec.ofInt 32 1 = 1#32 from rfl, wrap_u32_nat _ ((m >>> j) &&& 1#32).isLt]
  have h : ((m >>> j) &&& 1#32).toNat = if m.getLsbD j = true then 1 else 0 := by
    rw [BitVec.toNat_and, show (1#32).toNat = 1 from rfl, Nat.and_one_is_mod, BitVec.toNat_ushiftRight, Nat.shiftRight_eq_div_pow, BitVec.getLsbD, Nat.testBit_eq_decide_div_mod_eq]
    simp only [decide_eq_true_eq]
    split <;> omega
  rw [h]; split <;> rfl
/-- Bit i of a string of bytes, the most significant one of byte 0 first. -/
def bitAt (l : List UInt8) (i : Nat) : Bool := (l.getD (i / 8) 0).toNat.testBit (7 - i % 8)
theorem topBit_test (r j : Nat) (h : r < 8) (hj : j < 8) : (topBit r).toNat.testBit (7 - j) = decide (r = j) := by
  have : ∀ r : Fin 8, ∀ j : Fin 8, (topBit r.val).toNat.testBit (7 - j.val) = decide (r.val = j.val) := by decide
  exact this ⟨r, h⟩ ⟨j, hj⟩
theorem bitAt_flip (l : List UInt8) (p i : Nat) (hp : p < 8 * l.length) : bitAt (flipAt l p) i = (bitAt l i ^^ decide (p = i)) := by
  unfold bitAt flipAt
  by_cases h : p / 8 = i / 8
  · have hlt : i / 8 < l.length := by omega
    rw [h, List.getD_eq_getElem?_getD, List.getElem?_set_self hlt]
    simp only [Option.getD_some]
    rw [UInt8.toNat_xor, Nat.testBit_xor, topBit_test _ _ (by omega) (by omega)]
    congr 1
    rw [decide_eq_decide]; omega
  · rw [List.getD_eq_getElem?_getD, List.getElem?_set_ne h, ← List.getD_eq_getElem?_getD]
    rw [decide_eq_false (by omega), Bool.xor_false]
theorem bitAt_flipL (l : List UInt8) (bit : Nat) (m : BitVec 32) (i : Nat) (hi : i < 8 * l.length) : ∀ k, k ≤ 32 → bitAt (flipL l bit m k) i = (bitAt l i ^^ (decide (bit ≤ i ∧ i < bit + k) && m.getLsbD (31 - (i - bit)))) := by
  intro k
  induction k with
  | zero => intro _; rw [flipL, decide_eq_false (by omega)]; simp
  | succ k ih =>
    intro hk
    rw [flipL]
    by_cases hik : i = bit + k
    · have hd : decide (bit ≤ i ∧ i < bit + (k + 1)) = true := by rw [decide_eq_true_eq]; omega
      have hd' : decide (bit ≤ i ∧ i < bit + k) = false := by rw [decide_eq_false_iff_not]; omega
      have he : i - bit = k := by omega
      have ih' := ih (by omega)
      rw [hd', Bool.false_and, Bool.xor_false] at ih'
      split
      · rename_i h
        rw [bitAt_flip _ _ _ (by rw [flipL_length]; exact h.2), ih', hd, he, h.1, decide_eq_true (by omega)]; simp
      · rename_i h
        have hm : m.getLsbD (31 - k) = false := by
          cases hm : m.getLsbD (31 - k)
          · rfl
          · exact absurd ⟨hm, by omega⟩ h
        rw [ih', hd, he, hm]; simp
    · have hd : decide (bit ≤ i ∧ i < bit + (k + 1)) = decide (bit ≤ i ∧ i < bit + k) := by rw [decide_eq_decide]; omega
      rw [hd, ← ih (by omega)]
      split
      · rename_i h
        rw [bitAt_flip _ _ _ (by rw [flipL_length]; exact h.2), decide_eq_false (by omega), Bool.xor_false]
      · rfl
end Go.Proofs.Ytegekmdechcikaa
