/- Flips of bits, in plain terms. -/
import Derived.Test.YtgeopgibjmhehaaPlain
import Derived.Test.YtgeopgibjmhehaaTA
import Derived.Test.YtgeopgibjmhehaaTB
namespace Go.Proofs.Ytgeopgibjmhehaa
open Go

/-- The byte in which only the r-th bit from the top is set. -/
def topBit (r : Nat) : UInt8 := UInt8.ofNat (128 / 2 ^ r)
def flipAt (l : List UInt8) (p : Nat) : List UInt8 := l.set (p / 8) (l.getD (p / 8) 0 ^^^ topBit (p % 8))
/-- The first k bits of the mask, laid from a bit on. -/
def flipL (l : List UInt8) (bit : Nat) (m : BitVec 32) : Nat → List UInt8
  | 0 => l
  | k + 1 => if m.getLsbD (31 - k) = true ∧ bit + k < 8 * l.length then flipAt (flipL l bit m k) (bit + k) else flipL l bit m k
theorem flipAt_length (l : List UInt8) (p : Nat) : (flipAt l p).length = l.length := by simp [flipAt]
theorem flipL_length (l : List UInt8) (bit : Nat) (m : BitVec 32) (k : Nat) : (flipL l bit m k).length = l.length := by
  induction k with
  | zero => rfl
  | succ k ih =>
    rw [flipL]
    split
    · rw [flipAt_length, ih]
    · exact ih
theorem topBit_toNat (r : Nat) (h : r < 8) : ((topBit r).toNat : Int) = 128 / 2 ^ r := by
  rcases r with _ | _ | _ | _ | _ | _ | _ | _ | r <;> first | rfl | omega
theorem wrap_u8_nat (n : Nat) (h : n < 256) : IntKind.u8.wrap (n : Int) = n := by
  simp [IntKind.wrap, IntKind.bits, IntKind.signed]
  omega
theorem xor_u8 (a b : UInt8) : bits .xor .u8 (a.toNat : Int) (b.toNat : Int) = ((a ^^^ b).toNat : Int) := by
  show IntKind.u8.wrap ((BitVec.ofInt 8 (a.toNat : Int) ^^^ BitVec.ofInt 8 (b.toNat : Int)).toNat : Int) = _
  have e : ∀ c : UInt8, BitVec.ofInt 8 (c.toNat : Int) = c.toBitVec := fun c => by
    apply BitVec.eq_of_toNat_eq
    have := c.toNat_lt
    simp
  rw [e, e]
  exact wrap_u8_nat _ (a.toBitVec ^^^ b.toBitVec).isLt
theorem and1_u32 (m : BitVec 32) (j : Nat) : bits .and .u32 ((m.toNat : Int) / 2 ^ j) 1 = if m.getLsbD j = true then 1 else 0 := by
  have e : ((m.toNat : Int) / 2 ^ j) = ((m >>> j).toNat : Int) := by
    rw [BitVec.toNat_ushiftRight, Nat.shiftRight_eq_div_pow]
    simp
  have e1 : (1 : Int) = ((1#32).toNat : Int) := rfl
  show IntKind.u32.wrap ((BitVec.ofInt 32 ((m.toNat : Int) / 2 ^ j) &&& BitVec.ofInt 32 1).toNat : Int) = _
  rw [e, ofInt_bv, show BitVec.ofInt 32 1 = 1#32 from rfl, wrap_u32_nat _ ((m >>> j) &&& 1#32).isLt]
  have h : ((m >>> j) &&& 1#32).toNat = if m.getLsbD j = true then 1 else 0 := by
    rw [BitVec.toNat_and, show (1#32).toNat = 1 from rfl, Nat.and_one_is_mod, BitVec.toNat_ushiftRight, Nat.shiftRight_eq_div_pow, BitVec.getLsbD, Nat.testBit_eq_decide_div_mod_eq]
    simp only [decide_eq_true_eq]
    split <;> omega
  rw [h]; split <;> rfl
/-- Bit i of a string of bytes, the most significant one of byte 0 first. -/
def bitAt (l : List UInt8) (i : Nat) : Bool := (l.getD (i / 8) 0).toNat.testBit (7 - i % 8)
theorem topBit_test (r j : Nat) (h : r < 8) (hj : j < 8) : (topBit r).toNat.testBit (7 - j) = decide (r = j) := by
  have : ∀ r : Fin 8, ∀ j : Fin 8, (topBit r.val).toNat.testBit (7 - j.val) = decide (r.val = j.val) := by decide
  exact this ⟨r, h⟩ ⟨j, hj⟩
theorem bitAt_flip (l : List UInt8) (p i : Nat) (hp : p < 8 * l.length) : bitAt (flipAt l p) i = (bitAt l i ^^ decide (p = i)) := by
  unfold bitAt flipAt
  by_cases h : p / 8 = i / 8
  · have hlt : i / 8 < l.length := by omega
    rw [h, List.getD_eq_getElem?_getD, List.getElem?_set_self hlt]
    simp only [Option.getD_some]
    rw [UInt8.toNat_xor, Nat.testBit_xor, topBit_test _ _ (by omega) (by omega)]
    congr 1
    rw [decide_eq_decide]; omega
  · rw [List.getD_eq_getElem?_getD, List.getElem?_set_ne h, ← List.getD_eq_getElem?_getD]
    rw [decide_eq_false (by omega), Bool.xor_false]
theorem bitAt_flipL (l : List UInt8) (bit : Nat) (m : BitVec 32) (i : Nat) (hi : i < 8 * l.length) : ∀ k, k ≤ 32 → bitAt (flipL l bit m k) i = (bitAt l i ^^ (decide (bit ≤ i ∧ i < bit + k) && m.getLsbD (31 - (i - bit)))) := by
  intro k
  induction k with
  | zero => intro _; rw [flipL, decide_eq_false (by omega)]; simp
  | succ k ih =>
    intro hk
    rw [flipL]
    by_cases hik : i = bit + k
    · have hd : decide (bit ≤ i ∧ i < bit + (k + 1)) = true := by rw [decide_eq_true_eq]; omega
      have hd' : decide (bit ≤ i ∧ i < bit + k) = false := by rw [decide_eq_false_iff_not]; omega
      have he : i - bit = k := by omega
      have ih' := ih (by omega)
      rw [hd', Bool.false_and, Bool.xor_false] at ih'
      split
      · rename_i h
        rw [bitAt_flip _ _ _ (by rw [flipL_length]; exact h.2), ih', hd, he, h.1, decide_eq_true (by omega)]; simp
      · rename_i h
        have hm : m.getLsbD (31 - k) = false := by
          cases hm : m.getLsbD (31 - k)
          · rfl
          · exact absurd ⟨hm, by omega⟩ h
        rw [ih', hd, he, hm]; simp
    · have hd : decide (bit ≤ i ∧ i < bit + (k + 1)) = decide (bit ≤ i ∧ i < bit + k) := by rw [decide_eq_decide]; omega
      rw [hd, ← ih (by omega)]
      split
      · rename_i h
        rw [bitAt_flip _ _ _ (by rw [flipL_length]; exact h.2), decide_eq_false (by omega), Bool.xor_false]
      · rfl
end Go.Proofs.Ytgeopgibjmhehaa

/- The field of 256 elements: contracts of the program. -/
namespace Go.Proofs.Ytgeopgibjmhehaa
open Go Go.RowKit Go.Sort

abbrev b8 (x : B8) : Value := .int .u8 (x.toNat : Int)
theorem gm_zero (n : Nat) (x : B8) : gm n x 0#8 = 0#8 := Lin.zero (f := fun b => gm n x b) (fun _ _ => gm_right n _ _ _)
theorem xt_u8 : ∀ a : B8, bits .xor .u8 ((a.toNat : Int) * 2 % 256) ((a.toNat : Int) / 128 * 29) = ((xt a).toNat : Int) := by decide +kernel
theorem odd_u8 : ∀ b : B8, (bits .and .u8 (b.toNat : Int) 1 == 1) = b.getLsbD 0 := by decide +kernel
theorem half_u8 : ∀ b : B8, (b.toNat : Int) / (2 : Int) = ((b >>> 1).toNat : Int) := by decide +kernel
theorem xor_b8 (x y : B8) : bits .xor .u8 (x.toNat : Int) (y.toNat : Int) = ((x ^^^ y).toNat : Int) := by
  show IntKind.u8.wrap ((BitVec.ofInt 8 (x.toNat : Int) ^^^ BitVec.ofInt 8 (y.toNat : Int)).toNat : Int) = _
  have e : ∀ z : B8, BitVec.ofInt 8 (z.toNat : Int) = z := fun z => by apply BitVec.eq_of_toNat_eq; simp
  rw [e, e]
  exact wrap_u8_nat _ (x ^^^ y).isLt
/-- One round of Mul. -/
theorem mul_round {j : Nat} {a b z g : B8} (hpos : 0 < b.toNat) (h : b.toNat < 2 ^ j ∧ g = z ^^^ gm j a b) : ∃ i, j = i + 1 ∧ (b >>> 1).toNat < 2 ^ i ∧ g = (if b.getLsbD 0 then z ^^^ a else z) ^^^ gm i (xt a) (b >>> 1) := by
  obtain ⟨h1, h2⟩ := h
  cases j with
  | zero => simp at h1; omega
  | succ i =>
    refine ⟨i, rfl, ?_, ?_⟩
    · rw [BitVec.toNat_ushiftRight, Nat.shiftRight_eq_div_pow]
      rw [Nat.pow_succ] at h1
      omega
    · rw [h2, gm]
      cases b.getLsbD 0 <;> simp [BitVec.xor_assoc]
set_option maxHeartbeats 400000 in
theorem mul_any (x y : B8) (w : World) : Calls Try.prog 38 #[b8 x, b8 y] w fun e w' => e = .returned (b8 (gmul x y)) ∧ w = w' := by
  go_enter Try.func38, Try.ntmps38
  go_wp2
  go_loop [0, 1, 5] (fun s0 s1 s5 => ∃ (j : Nat) (a b z : B8), j ≤ 8 ∧ s0 = b8 a ∧ s1 = b8 b ∧ s5 = b8 z ∧ Hid (b.toNat < 2 ^ j ∧ gmul x y = z ^^^ gm j a b)) (fun _ s1 _ => (intOf s1).toNat)
  case atStart => exact ⟨8, x, y, 0#8, by omega, rfl, rfl, rfl, ⟨y.isLt, by simp [gmul]⟩⟩
  case round =>
    obtain ⟨j, a, b, z, hj, rfl, rfl, rfl, hg⟩ := hrel
    have ha := a.isLt
    have hb := b.isLt
    have hz := z.isLt
    by_cases h0 : b = 0#8
    · subst h0
      go_wp2
      go_ret
      exact ⟨by rw [hg.out.2, gm_zero]; simp, rfl⟩
    · have hpos : 0 < b.toNat := by
        rcases Nat.eq_zero_or_pos b.toNat with h | h
        · exact (h0 (BitVec.eq_of_toNat_eq (by simpa using h))).elim
        · exact h
      have HR := hid (mul_round hpos hg.out)
      go_wp2
      · have hodd := (odd_u8 b).symm.trans (by assumption)
        obtain ⟨i, rfl, h1, h2⟩ := HR.out
        rw [if_pos hodd] at h2
        go_round
        case rel => exact ⟨i, xt a, b >>> 1, z ^^^ a, by omega, by rw [xt_u8], by rw [half_u8], by rw [xor_b8], ⟨h1, h2⟩⟩
        case measure => (simp [intOf]; try omega)
      · have hodd := (odd_u8 b).symm.trans (by assumption)
        obtain ⟨i, rfl, h1, h2⟩ := HR.out
        rw [if_neg (by rw [hodd]; simp)] at h2
        go_round
        case rel => exact ⟨i, xt a, b >>> 1, z, by omega, by rw [xt_u8], by rw [half_u8], rfl, ⟨h1, h2⟩⟩
        case measure => (simp [intOf]; try omega)
theorem pw_zero (f : Nat) (out : B8) (a : B8) : pw f out 0 a = out := by cases f <;> simp [pw]
theorem pw_step (f : Nat) (out : B8) (n : Nat) (a : B8) (h : 0 < n) : pw (f + 1) out n a = pw f (if n % 2 = 1 then gmul out a else out) (n / 2) (gmul a a) := by rw [pw, if_neg (by omega)]
theorem and1_pos (n : Nat) (h : n < 1000) : (bits .and .i64 (n : Int) 1 == 1) = decide (n % 2 = 1) := by
  show (IntKind.i64.wrap ((BitVec.ofInt 64 (n : Int) &&& BitVec.ofInt 64 1).toNat : Int) == 1) = _
  rw [BitVec.ofInt_natCast, BitVec.toNat_and, BitVec.toNat_ofNat, show (BitVec.ofInt 64 1).toNat = 1 from rfl, Nat.and_one_is_mod, Nat.mod_eq_of_lt (show n < 2 ^ 64 by omega)]
  rcases Nat.mod_two_eq_zero_or_one n with e | e <;> rw [e] <;> rfl
set_option maxHeartbeats 400000 in
theorem power_any (x : B8) (n : Nat) (hn : n < 1000) (w : World) : Calls Try.prog 48 #[b8 x, .int .i64 n] w fun e w' => e = .returned (b8 (power x n)) ∧ w = w' := by
  go_enter Try.func48, Try.ntmps48
  go_wp2
  go_loop [0, 1, 5] (fun s0 s1 s5 => ∃ (f m : Nat) (a z : B8), m < 1000 ∧ Hid (m < 2 ^ f) ∧ s0 = b8 a ∧ s1 = .int .i64 (m : Int) ∧ s5 = b8 z ∧ Hid (power x n = pw f z m a)) (fun _ s1 _ => (intOf s1).toNat)
  case atStart => exact ⟨10, n, x, 1#8, hn, (show n < 2 ^ 10 by omega), rfl, rfl, rfl, rfl⟩
  case round =>
    obtain ⟨f, m, a, z, hm, hf, rfl, rfl, rfl, hg⟩ := hrel
    by_cases h0 : m = 0
    · have hge : m ≤ 0 := by omega
      clear h0 hf
      go_wp2
      go_ret
      obtain rfl : m = 0 := by omega
      exact ⟨by rw [hg.out, pw_zero]; rfl, rfl⟩
    · obtain ⟨f, rfl, hf2⟩ : ∃ k, f = k + 1 ∧ m / 2 < 2 ^ k := by
        have := hf.out
        cases f with
        | zero => simp at this; omega
        | succ k => exact ⟨k, rfl, by rw [Nat.pow_succ] at this; omega⟩
      have HF2 := hid hf2
      have HP := hid (pw_step f z m a (by omega))
      have hod := and1_pos m hm
      have hpos : 0 < m := by omega
      by_cases hp : m % 2 = 1
      · rw [decide_eq_true hp] at hod
        rw [if_pos hp] at HP
        clear hp hf hf2
        go_wp2_with fail
        refine (mul_any _ _ _).mono ?_
        rintro e w' ⟨rfl, rfl⟩
        go_wp2_with fail
        refine (mul_any _ _ _).mono ?_
        rintro e w' ⟨rfl, rfl⟩
        go_wp2
        go_round
        case rel => exact ⟨f, m / 2, gmul a a, gmul z a, by omega, HF2, rfl, by go_num, rfl, hid (hg.out.trans HP.out)⟩
        case measure => (simp [intOf]; try omega)
      · rw [decide_eq_false hp] at hod
        rw [if_neg hp] at HP
        clear hp hf hf2
        go_wp2_with fail
        refine (mul_any _ _ _).mono ?_
        rintro e w' ⟨rfl, rfl⟩
        go_wp2
        go_round
        case rel => exact ⟨f, m / 2, gmul a a, z, by omega, HF2, rfl, by go_num, rfl, hid (hg.out.trans HP.out)⟩
        case measure => (simp [intOf]; try omega)
theorem b8_zero (x : B8) (h : x ≠ 0#8) : ((x.toNat : Int) == 0) = false := by
  rw [beq_eq_false_iff_ne]
  intro e
  exact h (BitVec.eq_of_toNat_eq (by simp; omega))
set_option maxHeartbeats 400000 in
theorem inv_any (x : B8) (w : World) : Calls Try.prog 41 #[b8 x] w fun e w' => e = .returned (.tuple #[b8 (ginv x), .int .i64 (if x = 0#8 then 3 else 0)]) ∧ w = w' := by
  by_cases h : x = 0#8
  · subst h
    rw [show ginv 0#8 = 0#8 from rfl, if_pos rfl]
    go_enter Try.func41, Try.ntmps41
    go_wp2
    go_ret2
    exact ⟨rfl, rfl⟩
  · rw [show ginv x = power x 254 by unfold ginv; rw [if_neg h], if_neg h]
    have hz := b8_zero x h
    clear h
    go_enter Try.func41, Try.ntmps41
    go_wp2_with fail
    refine (power_any x 254 (by omega) w).mono ?_
    rintro e w' ⟨rfl, rfl⟩
    go_wp2
    go_ret2
    exact ⟨rfl, rfl⟩
theorem coef_arg (j i : Nat) (hj : j < 64) (hi : i < 64) : Value.int .u8 (bits .xor .u8 (128 + (j : Int)) (i : Int)) = b8 (BitVec.ofNat 8 (128 + j) ^^^ BitVec.ofNat 8 i) := by
  have e1 : (128 + (j : Int)) = ((BitVec.ofNat 8 (128 + j)).toNat : Int) := by rw [BitVec.toNat_ofNat]; omega
  have e2 : (i : Int) = ((BitVec.ofNat 8 i).toNat : Int) := by rw [BitVec.toNat_ofNat]; omega
  rw [e1, e2, xor_b8]
set_option maxHeartbeats 400000 in
theorem coef_any (j i : Nat) (hj : j < 64) (hi : i < 64) (w : World) : Calls Try.prog 39 #[.int .i64 j, .int .i64 i] w fun e w' => e = .returned (b8 (coef j i)) ∧ w = w' := by
  go_enter Try.func39, Try.ntmps39
  go_wp2_with fail
  rw [coef_arg j i hj hi]
  refine (inv_any _ w).mono ?_
  rintro e w' ⟨rfl, rfl⟩
  rw [show ginv (BitVec.ofNat 8 (128 + j) ^^^ BitVec.ofNat 8 i) = coef j i from rfl]
  generalize (if BitVec.ofNat 8 (128 + j) ^^^ BitVec.ofNat 8 i = 0#8 then (3 : Int) else 0) = er
  go_wp2
  go_ret
  exact ⟨rfl, rfl⟩
end Go.Proofs.Ytgeopgibjmhehaa
