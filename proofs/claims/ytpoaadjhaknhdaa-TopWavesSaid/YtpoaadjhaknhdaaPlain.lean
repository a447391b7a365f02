/- Plain mathematics of bytes and numbers: no program in sight. -/
import Derived.Test.YtpoaadjhaknhdaaCrc
namespace Go.Proofs.Ytpoaadjhaknhdaa
open Go

/-- A byte as a value. -/
def bv (c : UInt8) : Value := .int .u8 (c.toNat : Int)
/-- The lowest byte of a number. -/
def byteOf (x : Int) : UInt8 := UInt8.ofNat (x % 256).toNat
theorem byteOf_toNat (x : Int) : ((byteOf x).toNat : Int) = x % 256 := by
  unfold byteOf
  have h0 := Int.emod_nonneg x (show (256 : Int) ≠ 0 by decide)
  have h1 := Int.emod_lt_of_pos x (show (0 : Int) < 256 by decide)
  rw [UInt8.toNat_ofNat']
  omega
/-- The n lowest bytes of a number, the most significant one first. -/
def big : Nat → Int → List UInt8
  | 0, _ => []
  | n + 1, x => big n (x / 256) ++ [byteOf x]
theorem big_length (n : Nat) : ∀ x, (big n x).length = n := by
  induction n with
  | zero => intro x; rfl
  | succ n ih => intro x; simp [big, ih]
/-- The number of some bytes, the most significant one first. -/
def num (l : List UInt8) : Int := l.foldl (fun a c => a * 256 + (c.toNat : Int)) 0
theorem num_snoc (l : List UInt8) (c : UInt8) : num (l ++ [c]) = num l * 256 + (c.toNat : Int) := by simp [num]
theorem num_nonneg (l : List UInt8) : 0 ≤ num l := by
  suffices ∀ (l : List UInt8) (a : Int), 0 ≤ a → 0 ≤ l.foldl (fun a c => a * 256 + (c.toNat : Int)) a from this l 0 (by omega)
  intro l; induction l with
  | nil => intro a h; exact h
  | cons c l ih => intro a h; exact ih _ (show (0 : Int) ≤ a * 256 + (c.toNat : Int) by omega)
/-- What a row of bytes is in memory. -/
def row (l : List UInt8) : Array Value := (l.map bv).toArray
theorem row_size (l : List UInt8) : (row l).size = l.length := by simp [row]
theorem row_get (l : List UInt8) (k : Nat) (h : k < l.length) : (row l)[k]? = some (.int .u8 (l[k].toNat : Int)) := by simp [row, h, bv]
theorem row_set (l : List UInt8) (k : Nat) (c : UInt8) : (row l).setIfInBounds k (.int .u8 (c.toNat : Int)) = row (l.set k c) := by
  simp [row, List.map_set, bv]
/-- A string of given bytes. -/
abbrev str (l : List UInt8) : Value := .string ⟨l.toArray⟩
/-- The first 16 bytes of a string, filled up with zero bytes: after k rounds. -/
def near (l : List UInt8) (k : Nat) : List UInt8 := l.take k ++ List.replicate (16 - k) 0
theorem near_length (l : List UInt8) (k : Nat) (h : k ≤ 16) (hk : k ≤ l.length) : (near l k).length = 16 := by simp [near]; omega
theorem near_set (l : List UInt8) (k : Nat) (h : k < 16) (hk : k < l.length) : (near l k).set k l[k] = near l (k + 1) := by
  unfold near
  rw [List.set_append, List.take_succ_eq_append_getElem hk]
  have hl : (l.take k).length = k := by simp; omega
  rw [if_neg (by omega), hl, Nat.sub_self]
  obtain ⟨m, hm⟩ : ∃ m, 16 - k = m + 1 := ⟨16 - k - 1, by omega⟩
  rw [hm, show 16 - (k + 1) = m by omega, List.replicate_succ, List.append_assoc]
  rfl
/-- A number shifted right by so many bytes. -/
def shr8 : Nat → Int → Int
  | 0, x => x
  | j + 1, x => shr8 j x / 256
theorem shr8_comm (j : Nat) : ∀ x, shr8 j (x / 256) = shr8 j x / 256 := by
  induction j with
  | zero => intro x; rfl
  | succ j ih => intro x; simp only [shr8]; rw [ih]
theorem big_cons (j : Nat) : ∀ x, big (j + 1) x = byteOf (shr8 j x) :: big j x := by
  induction j with
  | zero => intro x; rfl
  | succ j ih =>
    intro x
    show big (j + 1) (x / 256) ++ [byteOf x] = _
    rw [ih, shr8_comm]
    rfl
/-- The row l with n bytes of x laid over it from place a on: k of them are still to come. -/
def lay (l : List UInt8) (a n : Nat) (x : Int) (k : Nat) : List UInt8 := l.take (a + k) ++ (big (n - k) x ++ l.drop (a + n))
theorem lay_length (l : List UInt8) (a n : Nat) (x : Int) (k : Nat) (hk : k ≤ n) (h : a + n ≤ l.length) : (lay l a n x k).length = l.length := by
  simp [lay, big_length]; omega
theorem lay_start (l : List UInt8) (a n : Nat) (x : Int) : lay l a n x n = l := by simp [lay, big]
theorem lay_set (l : List UInt8) (a n : Nat) (x : Int) (k : Nat) (hk : k < n) (h : a + n ≤ l.length) :
    (lay l a n x (k + 1)).set (a + k) (byteOf (shr8 (n - (k + 1)) x)) = lay l a n x k := by
  unfold lay
  have hl : (l.take (a + (k + 1))).length = a + (k + 1) := by simp; omega
  rw [List.set_append, if_pos (by omega), show n - k = (n - (k + 1)) + 1 by omega, big_cons]
  have e : l.take (a + (k + 1)) = l.take (a + k) ++ [l[a + k]'(by omega)] := by
    rw [← Nat.add_assoc, List.take_succ_eq_append_getElem (by omega)]
  have hl2 : (l.take (a + k)).length = a + k := by simp; omega
  rw [e, List.set_append, if_neg (by omega), hl2, Nat.sub_self]
  simp
theorem shr8_pow (j : Nat) : ∀ x, shr8 j x = x / 2 ^ (8 * j) := by
  induction j with
  | zero => intro x; simp [shr8]
  | succ j ih =>
    intro x
    have e : (2 : Int) ^ (8 * (j + 1)) = 2 ^ (8 * j) * 256 := by
      rw [show 8 * (j + 1) = 8 * j + 8 by omega, Int.pow_add]; rfl
    have hp : (0 : Int) ≤ 2 ^ (8 * j) := Int.le_of_lt (Int.pow_pos (by decide))
    rw [shr8, ih, e, Int.ediv_ediv_of_nonneg hp]
theorem num_lt (l : List UInt8) : num l < 256 ^ l.length := by
  suffices ∀ (l : List UInt8) (a : Int), 0 ≤ a → l.foldl (fun a c => a * 256 + (c.toNat : Int)) a < (a + 1) * 256 ^ l.length by
    have := this l 0 (by omega); simpa [num] using this
  intro l; induction l with
  | nil => intro a h; simp; omega
  | cons c l ih =>
    intro a h
    have hc : (c.toNat : Int) < 256 := by have := c.toNat_lt; omega
    have := ih (a * 256 + (c.toNat : Int)) (by omega)
    have hp : (0 : Int) ≤ 256 ^ l.length := Int.le_of_lt (Int.pow_pos (by decide))
    have h2 : (a * 256 + (c.toNat : Int) + 1) * 256 ^ l.length ≤ ((a + 1) * 256) * 256 ^ l.length := Int.mul_le_mul_of_nonneg_right (by omega) hp
    simp only [List.foldl_cons, List.length_cons]
    rw [Int.pow_succ, Int.mul_comm (256 ^ l.length) 256, ← Int.mul_assoc]
    omega
theorem num_take_lt (l : List UInt8) (k : Nat) (hk : k ≤ 4) : num (l.take k) < 4294967296 := by
  have h := num_lt (l.take k)
  have hl : (l.take k).length ≤ 4 := by simp; omega
  have : (256 : Int) ^ (l.take k).length ≤ 256 ^ 4 := by
    have := Nat.pow_le_pow_right (show 0 < 256 by decide) hl
    have h2 : ((256 ^ (l.take k).length : Nat) : Int) ≤ ((256 ^ 4 : Nat) : Int) := by omega
    simpa using h2
  have e : (256 : Int) ^ 4 = 4294967296 := by decide
  omega
theorem num_take_succ (l : List UInt8) (k : Nat) (h : k < l.length) : num (l.take (k + 1)) = num (l.take k) * 256 + (l[k].toNat : Int) := by
  rw [List.take_succ_eq_append_getElem h, num_snoc]

theorem or_low (y c : Nat) (h : c < 256) : (y * 256) ||| c = y * 256 + c := by
  rw [show y * 256 = y <<< 8 by rw [Nat.shiftLeft_eq], ← Nat.shiftLeft_add_eq_or_of_lt (by simpa using h)]
theorem or_i64 (y c : Int) (hy : 0 ≤ y) (hy2 : y ≤ 4294967296) (hc : 0 ≤ c) (hc2 : c < 256) : bits .or .i64 (y * 256) c = y * 256 + c := by
  obtain ⟨y, rfl⟩ := Int.eq_ofNat_of_zero_le hy
  obtain ⟨c, rfl⟩ := Int.eq_ofNat_of_zero_le hc
  show IntKind.i64.wrap ((BitVec.ofInt 64 ((y : Int) * 256) ||| BitVec.ofInt 64 (c : Int)).toNat : Int) = _
  have e1 : BitVec.ofInt 64 ((y : Int) * 256) = BitVec.ofNat 64 (y * 256) := by
    rw [show ((y : Int) * 256) = ((y * 256 : Nat) : Int) by omega, BitVec.ofInt_natCast]
  rw [e1, BitVec.ofInt_natCast, BitVec.toNat_or, BitVec.toNat_ofNat, BitVec.toNat_ofNat, Nat.mod_eq_of_lt (by omega), Nat.mod_eq_of_lt (by omega), or_low y c (by omega)]
  simp [IntKind.wrap, IntKind.bits, IntKind.signed]
  omega
/-- The bytes cs laid over l from place o on. -/
def over (l : List UInt8) (o : Nat) (cs : List UInt8) : List UInt8 := l.take o ++ (cs ++ l.drop (o + cs.length))
theorem lay_over (l : List UInt8) (a n : Nat) (x : Int) : lay l a n x 0 = over l a (big n x) := by simp [lay, over, big_length]
theorem over_append (A R cs : List UInt8) (o : Nat) (h : A.length = o) : over (A ++ R) o cs = (A ++ cs) ++ R.drop cs.length := by
  subst h
  simp [over]
/-- Zero bytes. -/
def zeros (n : Nat) : List UInt8 := List.replicate n 0
theorem zeros_length (n : Nat) : (zeros n).length = n := by simp [zeros]
theorem zeros_drop (n k : Nat) : (zeros n).drop k = zeros (n - k) := by simp [zeros]
/-- The first 32 bytes of a sector. -/
def headL (v f s g ve : Int) (d : List UInt8) : List UInt8 := [93, byteOf v, byteOf f, byteOf s] ++ big 5 g ++ big 5 ve ++ [0, 0] ++ d
def sealL (l : List UInt8) : List UInt8 := l ++ big 4 ((crc l).toNat : Int)
/-- The sector of a piece. -/
def encL (v f s g ve : Int) (d : List UInt8) : List UInt8 := sealL (headL v f s g ve d)
theorem headL_length (v f s g ve : Int) (d : List UInt8) (h : d.length = 16) : (headL v f s g ve d).length = 32 := by simp [headL, big_length, h]
theorem sealL_length (l : List UInt8) : (sealL l).length = l.length + 4 := by simp [sealL, big_length]
/-- The rows through which Encode goes. -/
def row1 (v f s : Int) : List UInt8 := [93, byteOf v, byteOf f, byteOf s] ++ zeros 32
def row2 (v f s g : Int) : List UInt8 := [93, byteOf v, byteOf f, byteOf s] ++ big 5 g ++ zeros 27
def row3 (v f s g ve : Int) : List UInt8 := [93, byteOf v, byteOf f, byteOf s] ++ big 5 g ++ big 5 ve ++ zeros 22
def row4 (v f s g ve : Int) (d : List UInt8) : List UInt8 := headL v f s g ve d ++ zeros 4
theorem row1_eq (v f s : Int) : ((((zeros 36).set 0 93).set 1 (byteOf v)).set 2 (byteOf f)).set 3 (byteOf s) = row1 v f s := rfl
theorem row2_eq (v f s g : Int) : lay (row1 v f s) 4 5 g 0 = row2 v f s g := by
  rw [lay_over, row1, over_append _ _ _ _ (by simp), zeros_drop, big_length]; rfl
theorem row3_eq (v f s g ve : Int) : lay (row2 v f s g) 9 5 ve 0 = row3 v f s g ve := by
  rw [lay_over, row2, over_append _ _ _ _ (by simp [big_length]), zeros_drop, big_length]; rfl
theorem row4_eq (v f s g ve : Int) (d : List UInt8) (h : d.length = 16) : over (row3 v f s g ve) 16 d = row4 v f s g ve d := by
  have e : row3 v f s g ve = ([93, byteOf v, byteOf f, byteOf s] ++ big 5 g ++ big 5 ve ++ [0, 0]) ++ zeros 20 := by
    rw [row3, List.append_assoc _ [0, 0]]; rfl
  rw [e, over_append _ _ _ _ (by simp [big_length]), zeros_drop, h]; rfl
theorem row4_take (v f s g ve : Int) (d : List UInt8) (h : d.length = 16) : (row4 v f s g ve d).take 32 = headL v f s g ve d := by
  rw [row4, List.take_append_of_le_length (by rw [headL_length _ _ _ _ _ _ h]; omega), List.take_of_length_le (by rw [headL_length _ _ _ _ _ _ h]; omega)]
theorem row5_eq (v f s g ve : Int) (d : List UInt8) (h : d.length = 16) : lay (row4 v f s g ve d) 32 4 ((crc (headL v f s g ve d)).toNat : Int) 0 = encL v f s g ve d := by
  rw [lay_over, row4, over_append _ _ _ _ (headL_length _ _ _ _ _ _ h), zeros_drop, big_length]
  simp [encL, sealL, zeros]
theorem row1_length (v f s : Int) : (row1 v f s).length = 36 := by simp [row1, zeros]
theorem row2_length (v f s g : Int) : (row2 v f s g).length = 36 := by simp [row2, zeros, big_length]
theorem row3_length (v f s g ve : Int) : (row3 v f s g ve).length = 36 := by simp [row3, zeros, big_length]
theorem row4_length (v f s g ve : Int) (d : List UInt8) (h : d.length = 16) : (row4 v f s g ve d).length = 36 := by simp [row4, headL_length _ _ _ _ _ _ h, zeros]
theorem encL_length (v f s g ve : Int) (d : List UInt8) (h : d.length = 16) : (encL v f s g ve d).length = 36 := by rw [encL, sealL_length, headL_length _ _ _ _ _ _ h]
theorem byteOf_small (x : Int) (h0 : 0 ≤ x) (h1 : x < 256) : ((byteOf x).toNat : Int) = x := by rw [byteOf_toNat]; omega
end Go.Proofs.Ytpoaadjhaknhdaa
