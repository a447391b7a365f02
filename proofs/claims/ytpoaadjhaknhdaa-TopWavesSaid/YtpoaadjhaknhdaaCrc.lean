/- Plain mathematics of the checksum: no program in sight. -/
import Derived.WalkKit
namespace Go.Proofs.Ytpoaadjhaknhdaa
open Go

/-- A fact kept from the walk. -/
theorem hid {p : Prop} (h : p) : Go.RowKit.Hid p := h

/-- One shift of the register. -/
def crcStep (x : BitVec 32) : BitVec 32 := (x <<< 1) ^^^ (if x.msb then 0x1edc6f41#32 else 0#32)
def crcSteps : Nat → BitVec 32 → BitVec 32
  | 0, x => x
  | n + 1, x => crcStep (crcSteps n x)
def crcIn (x : BitVec 32) (c : UInt8) : BitVec 32 := x ^^^ (c.toBitVec.setWidth 32 <<< 24)
def crcByte (x : BitVec 32) (c : UInt8) : BitVec 32 := crcSteps 8 (crcIn x c)
def crc (l : List UInt8) : BitVec 32 := l.foldl crcByte 0xffffffff#32

abbrev u32 (x : BitVec 32) : Value := .int .u32 (x.toNat : Int)
theorem u32_eq {x : BitVec 32} {n : Int} (h : n = (x.toNat : Int)) : Value.int .u32 n = u32 x := by rw [h]

theorem crc_take (l : List UInt8) (k : Nat) (h : k < l.length) : crc (l.take (k + 1)) = crcSteps 8 (crcIn (crc (l.take k)) l[k]) := by
  rw [List.take_succ_eq_append_getElem h]; unfold crc; rw [List.foldl_append]; rfl

theorem u32_range (x : BitVec 32) : (0 : Int) ≤ (x.toNat : Int) ∧ (x.toNat : Int) ≤ 4294967295 := by
  have := x.isLt; omega

theorem wrap_u32_nat (n : Nat) (h : n < 4294967296) : IntKind.u32.wrap (n : Int) = n := by
  simp [IntKind.wrap, IntKind.bits, IntKind.signed]
  omega

theorem ofInt_bv (x : BitVec 32) : BitVec.ofInt 32 (x.toNat : Int) = x := by
  apply BitVec.eq_of_toNat_eq
  simp

theorem xor_u32 (x y : BitVec 32) : bits .xor .u32 (x.toNat : Int) (y.toNat : Int) = ((x ^^^ y).toNat : Int) := by
  show IntKind.u32.wrap ((BitVec.ofInt 32 (x.toNat : Int) ^^^ BitVec.ofInt 32 (y.toNat : Int)).toNat : Int) = _
  rw [ofInt_bv, ofInt_bv]
  exact wrap_u32_nat _ (x ^^^ y).isLt

theorem in_u32 (x : BitVec 32) (c : UInt8) : bits .xor .u32 (x.toNat : Int) ((c.toNat : Int) % 4294967296 * 16777216 % 4294967296) = ((crcIn x c).toNat : Int) := by
  have hc : c.toNat < 256 := c.toNat_lt
  have : (c.toNat : Int) % (4294967296 : Int) * (16777216 : Int) % (4294967296 : Int) = ((c.toBitVec.setWidth 32 <<< 24 : BitVec 32).toNat : Int) := by
    rw [BitVec.toNat_shiftLeft, BitVec.toNat_setWidth, Nat.shiftLeft_eq]
    have e : c.toBitVec.toNat = c.toNat := rfl
    rw [e]
    omega
  rw [this, xor_u32]; rfl

theorem step_u32_1 (x : BitVec 32) (h : ((x.toNat : Int) / 2147483648 == 1) = true) : bits .xor .u32 ((x.toNat : Int) * 2 % 4294967296) 517762881 = ((crcStep x).toNat : Int) := by
  have hm : x.msb = true := by
    rw [BitVec.msb_eq_decide, decide_eq_true_iff]
    have := WalkArith.int_eq h
    simp only [Nat.reducePow, Nat.reduceSub]
    omega
  have e : (x.toNat : Int) * (2 : Int) % (4294967296 : Int) = ((x <<< 1 : BitVec 32).toNat : Int) := by
    rw [BitVec.toNat_shiftLeft, Nat.shiftLeft_eq]; omega
  have e2 : (517762881 : Int) = ((0x1edc6f41#32).toNat : Int) := rfl
  rw [e, e2, xor_u32, crcStep, hm]; rfl

theorem step_u32_0 (x : BitVec 32) (h : ((x.toNat : Int) / 2147483648 == 1) = false) : (x.toNat : Int) * 2 % 4294967296 = ((crcStep x).toNat : Int) := by
  have hm : x.msb = false := by
    rw [BitVec.msb_eq_decide, decide_eq_false_iff_not]
    have := WalkArith.int_ne h
    have := x.isLt
    simp only [Nat.reducePow, Nat.reduceSub]
    omega
  have e : (x.toNat : Int) * (2 : Int) % (4294967296 : Int) = ((x <<< 1 : BitVec 32).toNat : Int) := by
    rw [BitVec.toNat_shiftLeft, Nat.shiftLeft_eq]; omega
  rw [e, crcStep, hm]; simp

end Go.Proofs.Ytpoaadjhaknhdaa
