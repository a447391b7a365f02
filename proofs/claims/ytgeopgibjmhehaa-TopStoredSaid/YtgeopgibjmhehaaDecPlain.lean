/- What Decode answers, in plain terms. -/
import Derived.Test.YtgeopgibjmhehaaTA
import Derived.Test.YtgeopgibjmhehaaPlain
namespace Go.Proofs.Ytgeopgibjmhehaa
open Go

def fVol (l : List UInt8) : Int := ((l.getD 1 0).toNat : Int)
def fFrag (l : List UInt8) : Int := ((l.getD 2 0).toNat : Int)
def fStripe (l : List UInt8) : Int := ((l.getD 3 0).toNat : Int)
def fGen (l : List UInt8) : Int := num ((l.drop 4).take 5)
def fVer (l : List UInt8) : Int := num ((l.drop 9).take 5)
def fData (l : List UInt8) : List UInt8 := (l.drop 16).take 16
/-- l is the sector of a valid piece. -/
def formB (l : List UInt8) : Bool := validB (fVol l) (fFrag l) (fStripe l) (fGen l) (fVer l) (fData l).length && (encL (fVol l) (fFrag l) (fStripe l) (fGen l) (fVer l) (fData l) == l)
def sumB (l : List UInt8) : Bool := num ((l.drop 32).take 4) == ((crc (l.take 32)).toNat : Int)
/-- The error number. -/
def errOf (l : List UInt8) : Int :=
  if l.length ≠ 36 then 101 else if l = zeros 36 then 102 else if sumB l = false then 103 else if formB l = false then 104 else 0
def zeroCells : Array Value := #[.int .i64 0, .int .i64 0, .int .i64 0, .int .i64 0, .int .i64 0, .string { data := #[] }]
def decCells (l : List UInt8) : Array Value :=
  if errOf l = 0 then #[.int .i64 (fVol l), .int .i64 (fFrag l), .int .i64 (fStripe l), .int .i64 (fGen l), .int .i64 (fVer l), str (fData l)] else zeroCells
theorem err_len (l : List UInt8) (h : l.length ≠ 36) : errOf l = 101 := by unfold errOf; rw [if_pos h]
theorem err_blank (l : List UInt8) (h : l.length = 36) (h2 : l = zeros 36) : errOf l = 102 := by unfold errOf; rw [if_neg (by simp [h]), if_pos h2]
theorem err_sum (l : List UInt8) (h : l.length = 36) (h2 : l ≠ zeros 36) (h3 : sumB l = false) : errOf l = 103 := by unfold errOf; rw [if_neg (by simp [h]), if_neg h2, if_pos h3]
theorem err_form (l : List UInt8) (h : l.length = 36) (h2 : l ≠ zeros 36) (h3 : sumB l = true) (h4 : formB l = false) : errOf l = 104 := by unfold errOf; rw [if_neg (by simp [h]), if_neg h2, if_neg (by simp [h3]), if_pos h4]
theorem err_ok (l : List UInt8) (h : l.length = 36) (h2 : l ≠ zeros 36) (h3 : sumB l = true) (h4 : formB l = true) : errOf l = 0 := by unfold errOf; rw [if_neg (by simp [h]), if_neg h2, if_neg (by simp [h3]), if_neg (by simp [h4])]
theorem dec_no (l : List UInt8) {n : Int} (h : errOf l = n) (hn : n ≠ 0) : decCells l = zeroCells := by unfold decCells; rw [if_neg (by rw [h]; exact hn)]
theorem dec_yes (l : List UInt8) (h : errOf l = 0) : decCells l = #[.int .i64 (fVol l), .int .i64 (fFrag l), .int .i64 (fStripe l), .int .i64 (fGen l), .int .i64 (fVer l), str (fData l)] := by unfold decCells; rw [if_pos h]
def allZero (l : List UInt8) : Bool := l.all (· == 0)
theorem allZero_snoc (l : List UInt8) (k : Nat) (h : k < l.length) : allZero (l.take (k + 1)) = (allZero (l.take k) && l[k] == 0) := by
  unfold allZero
  rw [List.take_succ_eq_append_getElem h, List.all_append]; simp
theorem allZero_zeros (l : List UInt8) (h : l.length = 36) : allZero l = true ↔ l = zeros 36 := by
  unfold allZero zeros
  rw [List.all_eq_true]
  constructor
  · intro ha
    exact List.eq_replicate_iff.2 ⟨h, fun b hb => by simpa using ha b hb⟩
  · intro e x hx
    rw [e] at hx
    simp [List.eq_of_mem_replicate hx]
theorem byte_zero (c : UInt8) : ((c.toNat : Int) == 0) = (c == 0) := by
  rw [Bool.eq_iff_iff]
  simp only [beq_iff_eq]
  constructor
  · intro h
    have : c.toNat = 0 := by omega
    exact UInt8.toNat_inj.1 (by simpa using this)
  · intro h; subst h; rfl
theorem zeros_get (s : ByteArray) (h : s.data.toList = zeros 36) (k : Nat) (hk : k < s.size) : ((s[k].toNat : Int) == 0) = true := by
  have hk' : k < s.data.toList.length := by simpa using hk
  have e : s[k] = s.data.toList[k] := rfl
  have hm : s.data.toList[k] ∈ zeros 36 := by rw [← h]; exact List.getElem_mem hk'
  rw [byte_zero, e, List.eq_of_mem_replicate hm]; rfl
theorem getD_byte (s : ByteArray) (k : Nat) (hk : k < s.size) : s.data.toList.getD k 0 = s[k] := by
  have hk' : k < s.data.toList.length := by simpa using hk
  rw [List.getD_eq_getElem?_getD, List.getElem?_eq_getElem hk']; rfl
theorem sum_num (l : List UInt8) (b : Bool) (h : sumB l = b) : (num ((l.drop 32).take 4) != ((crc (l.take 32)).toNat : Int)) = !b := by
  unfold sumB at h; rw [bne, h]
theorem byteOf_add (a : Int) (c : UInt8) : byteOf (a * 256 + (c.toNat : Int)) = c := by
  have hc := c.toNat_lt
  unfold byteOf
  rw [show (a * 256 + (c.toNat : Int)) % 256 = (c.toNat : Int) by omega]
  simp
theorem big_num (n : Nat) : ∀ m : List UInt8, m.length = n → big n (num m) = m := by
  induction n with
  | zero => intro m h; rw [List.eq_nil_of_length_eq_zero h]; rfl
  | succ n ih =>
    intro m h
    have hne : m ≠ [] := by intro e; rw [e] at h; simp at h
    obtain ⟨init, c, rfl⟩ : ∃ init c, m = init ++ [c] := ⟨m.dropLast, m.getLast hne, (List.dropLast_concat_getLast hne).symm⟩
    have hl : init.length = n := by simpa using h
    rw [num_snoc, big, byteOf_add]
    have hc := c.toNat_lt
    rw [show (num init * 256 + (c.toNat : Int)) / 256 = num init by omega, ih init hl]
theorem num_big (n : Nat) : ∀ x : Int, 0 ≤ x → x < 256 ^ n → num (big n x) = x := by
  induction n with
  | zero => intro x h0 h1; simp at h1; simp [big, num]; omega
  | succ n ih =>
    intro x h0 h1
    rw [big, num_snoc, byteOf_toNat]
    have hp : (256 : Int) ^ (n + 1) = 256 ^ n * 256 := Int.pow_succ _ _
    rw [ih (x / 256) (by omega) (by rw [hp] at h1; omega)]
    omega
/-- A string of 36 bytes is sealed exactly if the checksum fits. -/
theorem sealed_iff (l : List UInt8) (h : l.length = 36) : sealL (l.take 32) = l ↔ sumB l = true := by
  have hd : ((l.drop 32).take 4) = l.drop 32 := List.take_of_length_le (by simp; omega)
  have hdl : (l.drop 32).length = 4 := by simp; omega
  unfold sumB sealL
  rw [hd, beq_iff_eq]
  constructor
  · intro e
    have e2 : big 4 ((crc (l.take 32)).toNat : Int) = l.drop 32 := by
      have := congrArg (List.drop 32) e
      rwa [List.drop_append_of_le_length (by simp; omega), List.drop_of_length_le (by simp; omega), List.nil_append] at this
    rw [← e2]
    have := (crc (l.take 32)).isLt
    exact num_big 4 _ (by omega) (by have e4 : (256 : Int) ^ 4 = 4294967296 := by decide
                                     rw [e4]; omega)
  · intro e
    rw [← e, big_num 4 _ hdl]
    exact List.take_append_drop 32 l
/-- Decode of the sector of a valid piece is the piece. -/
theorem dec_enc (v f s g ve : Int) (d : List UInt8) (hv : validB v f s g ve d.length = true) :
    errOf (encL v f s g ve d) = 0 ∧ fVol (encL v f s g ve d) = v ∧ fFrag (encL v f s g ve d) = f ∧ fStripe (encL v f s g ve d) = s ∧ fGen (encL v f s g ve d) = g ∧ fVer (encL v f s g ve d) = ve ∧ fData (encL v f s g ve d) = d := by
  have hbd := hv
  simp only [validB, decide_eq_true_eq] at hbd
  obtain ⟨v0, v1, fl0, fl1, s0, s1, g0, g1, e0, e1, hd⟩ := hbd
  have hl := encL_length v f s g ve d hd
  have e5 : (256 : Int) ^ 5 = 1099511627776 := by decide
  have a1 : fVol (encL v f s g ve d) = v := byteOf_small v v0 (by omega)
  have a2 : fFrag (encL v f s g ve d) = f := byteOf_small f fl0 (by omega)
  have a3 : fStripe (encL v f s g ve d) = s := byteOf_small s s0 (by omega)
  have shape : encL v f s g ve d = [93, byteOf v, byteOf f, byteOf s] ++ (big 5 g ++ (big 5 ve ++ ([0, 0] ++ (d ++ big 4 ((crc (headL v f s g ve d)).toNat : Int))))) := by
    simp [encL, sealL, headL]
  have a4 : fGen (encL v f s g ve d) = g := by
    unfold fGen
    rw [shape, List.drop_append, show (List.drop 4 [93, byteOf v, byteOf f, byteOf s] : List UInt8) = [] from rfl, List.nil_append, List.length_cons, List.length_cons, List.length_cons, List.length_cons, List.length_nil, show 4 - (0 + 1 + 1 + 1 + 1) = 0 from rfl, List.drop_zero,
      List.take_append_of_le_length (by rw [big_length]; omega), List.take_of_length_le (by rw [big_length]; omega)]
    exact num_big 5 g (by omega) (by omega)
  have hA : ([93, byteOf v, byteOf f, byteOf s] ++ big 5 g).length = 9 := by simp [big_length]
  have a5 : fVer (encL v f s g ve d) = ve := by
    unfold fVer
    rw [shape, ← List.append_assoc, List.drop_append_of_le_length (by omega), List.drop_of_length_le (by omega), List.nil_append,
      List.take_append_of_le_length (by rw [big_length]; omega), List.take_of_length_le (by rw [big_length]; omega)]
    exact num_big 5 ve (by omega) (by omega)
  have hB : ([93, byteOf v, byteOf f, byteOf s] ++ big 5 g ++ big 5 ve ++ [0, 0]).length = 16 := by simp [big_length]
  have a6 : fData (encL v f s g ve d) = d := by
    unfold fData
    rw [shape, ← List.append_assoc, ← List.append_assoc, ← List.append_assoc, List.drop_append_of_le_length (by omega), List.drop_of_length_le (by omega), List.nil_append,
      List.take_append_of_le_length (by omega), List.take_of_length_le (by omega)]
  refine ⟨err_ok _ hl ?_ ?_ ?_, a1, a2, a3, a4, a5, a6⟩
  · intro e
    have : (encL v f s g ve d).getD 0 0 = (zeros 36).getD 0 0 := by rw [e]
    rw [shape] at this
    simp [zeros] at this
  · refine (sealed_iff _ hl).1 ?_
    have ht : (encL v f s g ve d).take 32 = headL v f s g ve d := by
      unfold encL sealL
      rw [List.take_append_of_le_length (by rw [headL_length _ _ _ _ _ _ hd]; omega), List.take_of_length_le (by rw [headL_length _ _ _ _ _ _ hd]; omega)]
    rw [ht]; rfl
  · unfold formB
    rw [a1, a2, a3, a4, a5, a6, hv]; simp
/-- What Decode accepts is the sector of a valid piece. -/
theorem enc_dec (l : List UInt8) (h : errOf l = 0) : l.length = 36 ∧ validB (fVol l) (fFrag l) (fStripe l) (fGen l) (fVer l) (fData l).length = true ∧ encL (fVol l) (fFrag l) (fStripe l) (fGen l) (fVer l) (fData l) = l := by
  unfold errOf at h
  split at h
  · omega
  · rename_i hl
    split at h
    · omega
    · split at h
      · omega
      · split at h
        · omega
        · rename_i hf
          have hf' : formB l = true := by simpa using hf
          unfold formB at hf'
          rw [Bool.and_eq_true] at hf'
          exact ⟨by simpa using hl, hf'.1, by simpa using hf'.2⟩
theorem dec_enc_cells (v f s g ve : Int) (d : List UInt8) (hv : validB v f s g ve d.length = true) :
    errOf (encL v f s g ve d) = 0 ∧ decCells (encL v f s g ve d) = #[.int .i64 v, .int .i64 f, .int .i64 s, .int .i64 g, .int .i64 ve, str d] := by
  obtain ⟨h0, h1, h2, h3, h4, h5, h6⟩ := dec_enc v f s g ve d hv
  exact ⟨h0, by rw [dec_yes _ h0, h1, h2, h3, h4, h5, h6]⟩
/-- A piece out of Near is valid. -/
theorem near_valid (v f s g ve : Int) (n : Nat) (hn : n = 16) : validB (v % 12) (f % 8) (s % 4) (1 + g % 1099511627775) (1 + ve % 1099511627775) n = true := by
  unfold validB
  rw [decide_eq_true_eq]
  have a0 := Int.emod_nonneg v (show (12 : Int) ≠ 0 by decide)
  have a1 := Int.emod_lt_of_pos v (show (0 : Int) < 12 by decide)
  have b0 := Int.emod_nonneg f (show (8 : Int) ≠ 0 by decide)
  have b1 := Int.emod_lt_of_pos f (show (0 : Int) < 8 by decide)
  have c0 := Int.emod_nonneg s (show (4 : Int) ≠ 0 by decide)
  have c1 := Int.emod_lt_of_pos s (show (0 : Int) < 4 by decide)
  have g0 := Int.emod_nonneg g (show (1099511627775 : Int) ≠ 0 by decide)
  have g1 := Int.emod_lt_of_pos g (show (0 : Int) < 1099511627775 by decide)
  have e0 := Int.emod_nonneg ve (show (1099511627775 : Int) ≠ 0 by decide)
  have e1 := Int.emod_lt_of_pos ve (show (0 : Int) < 1099511627775 by decide)
  exact ⟨by omega, by omega, by omega, by omega, by omega, by omega, by omega, by omega, by omega, by omega, hn⟩
/-- The bytes of a piece out of Near. -/
def nearB (d : ByteArray) : List UInt8 := near d.data.toList (min 16 d.size)
theorem nearB_length (d : ByteArray) : (nearB d).length = 16 := near_length _ _ (by omega) (by simp; omega)
end Go.Proofs.Ytgeopgibjmhehaa
