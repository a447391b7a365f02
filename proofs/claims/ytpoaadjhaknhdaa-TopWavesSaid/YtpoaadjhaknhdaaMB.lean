/- Natural numbers of one limb: Bits, short, divide. -/
import Derived.Test.YtpoaadjhaknhdaaMA
import Derived.Deep.LoopGhost
namespace Go.Proofs.Ytpoaadjhaknhdaa
open Go Go.RowKit Go.Sort Go.Deep

def bitsF : Nat → Nat → Nat
  | 0, _ => 0
  | f + 1, n => if n = 0 then 0 else 1 + bitsF f (n / 2)
def bitsN (n : Nat) : Nat := bitsF 32 n
theorem bitsF_le : ∀ f n, bitsF f n ≤ f
  | 0, _ => Nat.le_refl _
  | f + 1, n => by
    unfold bitsF
    have := bitsF_le f (n / 2)
    split <;> omega
theorem bitsN_le (n : Nat) : bitsN n ≤ 32 := bitsF_le 32 n
theorem bitsN_zero : bitsN 0 = 0 := rfl
theorem bitsN_pos {n : Nat} (h : 0 < n) : 0 < bitsN n := by unfold bitsN bitsF; rw [if_neg (by omega)]; omega
theorem bitsN_one {n : Nat} (h : 1 < n) : 1 < bitsN n := by
  unfold bitsN bitsF
  rw [if_neg (by omega)]
  unfold bitsF
  rw [if_neg (by omega)]
  omega
theorem bitsN_1 : bitsN 1 = 1 := rfl
theorem bitsF_zero : ∀ f, bitsF f 0 = 0
  | 0 => rfl
  | f + 1 => by unfold bitsF; rw [if_pos rfl]
section
variable {w : World} {u v : Value} {a b : Nat}
set_option maxRecDepth 100000 in
set_option maxHeartbeats 800000 in
theorem bits_one (ha : One w v a) : Calls Try.prog 65 #[v] w fun e w' => e = .returned (.int .i64 (bitsN a : Nat)) ∧ w = w' := by
  have la := hid (length_one ha)
  have hlt := ha.1
  rcases ha.cases with ⟨rfl, A, ca, rfl, _⟩ | ⟨a0, ga, oa, ca, rfl, hga, ha1, hac, za⟩
  · rw [lenN_zero] at la
    go_enter Try.func65, Try.ntmps65
    go_wp2_with fail
    refine la.out.mono ?_
    rintro e w2 ⟨rfl, rfl⟩
    go_wp2
    go_ret
    exact ⟨rfl, rfl⟩
  · rw [lenN_pos a0] at la
    obtain ⟨n, hn⟩ : ∃ n, bitsN a = n := ⟨_, rfl⟩
    have hn32 := bitsN_le a
    rw [hn] at hn32 ⊢
    have HN := hid hn
    clear hn
    go_enter Try.func65, Try.ntmps65
    go_wp2_with fail
    refine la.out.mono ?_
    rintro e w2 ⟨rfl, rfl⟩
    go_wp2
    go_loop [4, 5] (fun s4 s5 => ∃ (f k x : Nat), s4 = .int .i64 k ∧ s5 = .int .u32 x ∧ k + f ≤ 32 ∧ x < 4294967296 ∧ Hid (x < 2 ^ f) ∧ Hid (k + bitsF f x = n)) (fun _ s5 => (intOf s5).toNat)
    case atStart => exact ⟨32, 0, a, rfl, rfl, by omega, by omega, hid hlt, hid (by rw [← HN.out]; simp [bitsN])⟩
    case round =>
      obtain ⟨f, k, x, rfl, rfl, hkf, hx, HX, HK⟩ := hrel
      by_cases h0 : x = 0
      · subst h0
        go_wp2
        go_ret
        exact ⟨by rw [← HK.out, bitsF_zero]; rfl, rfl⟩
      · obtain ⟨f', rfl⟩ : ∃ f', f = f' + 1 := by
          cases f with
          | zero => have := HX.out; simp at this; omega
          | succ f => exact ⟨f, rfl⟩
        have h0' : (0 : Int) < (x : Int) := by omega
        have HH := hid (show (x : Int) / 2 = ((x / 2 : Nat) : Int) by omega)
        have hle : x / 2 ≤ x := by omega
        go_wp2
        go_round
        case rel => exact ⟨f', k + 1, x / 2, by go_num, by rw [HH.out], by omega, by omega, hid (by have := HX.out; rw [Nat.pow_succ] at this; omega), hid (by have := HK.out; rw [bitsF, if_neg h0] at this; omega)⟩
        case measure => (simp [intOf]; try omega)
end
end Go.Proofs.Ytpoaadjhaknhdaa

/- Natural numbers of one limb: short, divide, Div, Gcd. -/
namespace Go.Proofs.Ytpoaadjhaknhdaa
open Go Go.RowKit Go.Sort Go.Deep

set_option maxRecDepth 100000 in
theorem make_nat (n : Nat) (hn : n ≤ 1000) (w : World) : (Instr.makeSlice 46 (.int .i64 n) (.int .i64 n)).run Try.prog w = .ok (.slice (some ⟨w.heap.size, 0, none⟩) n n) (w.alloc (.cells (List.replicate n (Value.int .u32 0)).toArray 78)) := by
  obtain ⟨i, hi, hz, hs, hby⟩ := info_parts Try.info_u32
  have hrun := run_make (P := Try.prog) w 46 78 i (.int .u32 0) Try.underlying46 hi hz .i64 .i64 n n (by omega) (Int.le_refl _) (by rw [hby]; omega) (by omega)
  rw [Int.toNat_natCast, hs, Nat.mul_one] at hrun
  rw [hrun]
  congr 4
  apply Array.ext_getElem?
  intro j
  unfold madeCells
  by_cases h : j < n
  · simp [h, Nat.mod_one, Value.cells]
  · simp [h]
theorem make_0 (w : World) : (Instr.makeSlice 46 (.int .i64 0) (.int .i64 0)).run Try.prog w = .ok (.slice (some ⟨w.heap.size, 0, none⟩) 0 0) (w.alloc (.cells #[] 78)) := make_nat 0 (by omega) w
theorem make_1 (w : World) : (Instr.makeSlice 46 (.int .i64 1) (.int .i64 1)).run Try.prog w = .ok (.slice (some ⟨w.heap.size, 0, none⟩) 1 1) (w.alloc (.cells #[.int .u32 0] 78)) := make_nat 1 (by omega) w
theorem make_2 (w : World) : (Instr.makeSlice 46 (.int .i64 2) (.int .i64 2)).run Try.prog w = .ok (.slice (some ⟨w.heap.size, 0, none⟩) 2 2) (w.alloc (.cells #[.int .u32 0, .int .u32 0] 78)) := make_nat 2 (by omega) w
theorem or_u64 (a : Nat) (h : a < 4294967296) : bits .or .u64 0 (a : Int) = (a : Int) := by
  show IntKind.u64.wrap ((BitVec.ofInt 64 0 ||| BitVec.ofInt 64 (a : Int)).toNat : Int) = _
  have e : (BitVec.ofInt 64 0 ||| BitVec.ofInt 64 (a : Int)).toNat = a := by
    have : BitVec.ofInt 64 0 = 0#64 := rfl
    rw [this, BitVec.zero_or, BitVec.toNat_ofInt]
    omega
  rw [e]
  simp [IntKind.wrap, IntKind.bits, IntKind.signed]
  omega
section
variable {w : World} {u v : Value} {a b : Nat}
/-- What is left of the row that was made. -/
theorem one_new (w : World) (x : Nat) (hx : x < 4294967296) (t : TypeId) (k : Nat) (hk : lenN x = k) : One (w.alloc (.cells #[.int .u32 (x : Int)] t)) (.slice (some ⟨w.heap.size, 0, none⟩) k 1) x := by
  have h := (limbs_new w [x] t (by simp; exact hx) (by unfold maxLen; simp)).one rfl (Nat.le_refl _) x (fun j hj => by
    have : j < 1 := hj
    rcases (by omega : j = 0) with rfl; rfl) (fun e => by cases e) 1 (Nat.le_refl _) (lenN_le x)
  rw [hk] at h
  exact h
set_option maxRecDepth 100000 in
set_option maxHeartbeats 800000 in
theorem short_one (ha : One w v a) (d : Nat) (hd : 0 < d) (hd2 : d < 4294967296) : Calls Try.prog 93 #[v, .int .u32 (d : Int)] w fun e w' => ∃ q, e = .returned (.tuple #[q, .int .u32 ((a % d : Nat) : Int)]) ∧ One w' q (a / d) ∧ Below w.heap.size w w' := by
  have hlt := ha.1
  rcases ha.cases with ⟨rfl, A, ca, rfl, _⟩ | ⟨a0, ga, oa, ca, rfl, hga, ha1, hac, za⟩
  · rw [Nat.zero_mod, Nat.zero_div]
    have HL := hid (length_any (limbs_new w [] 78 (fun x hx => by cases hx) (Nat.zero_le _)))
    go_enter Try.func93, Try.ntmps93
    have k0 := make_0
    go_wp2_with fail
    refine wp_loop_rounds 1 ?_
    rw [rounds_succ]
    go_wp2_with fail
    refine HL.out.mono ?_
    rintro e w2 ⟨rfl, rfl⟩
    go_wp2
    go_ret2
    exact ⟨_, rfl, One.empty (by simp) (Nat.zero_le _), (Below.refl _ _).alloc (Nat.le_refl _) _⟩
  · have hor := or_u64 a hlt
    have hq : (a : Int) / (d : Int) = ((a / d : Nat) : Int) := (Int.natCast_ediv a d).symm
    have hr : (a : Int).tmod (d : Int) = ((a % d : Nat) : Int) := (Int.ofNat_tmod a d).symm
    have hqa : a / d ≤ a := Nat.div_le_self a d
    have hra : a % d < d := Nat.mod_lt _ hd
    obtain ⟨q, hqq⟩ : ∃ q, a / d = q := ⟨_, rfl⟩
    obtain ⟨r, hrr⟩ : ∃ r, a % d = r := ⟨_, rfl⟩
    rw [hqq] at hq hqa ⊢
    rw [hrr] at hr hra ⊢
    clear hqq hrr
    obtain ⟨k, hk⟩ : ∃ k, lenN q = k := ⟨_, rfl⟩
    have hk1 := lenN_le q
    have HL := hid (length_any (limbs_new w [q] 78 (by simp; omega) (by unfold maxLen; simp)))
    have HT := hid (top_one [q] q 1 (fun j hj => by
      rcases (by omega : j = 0) with rfl; rfl) (fun e => by cases e))
    have HO := hid (one_new w q (by omega) 78 k hk)
    have k1 := make_1
    rw [hk] at hk1 HT
    clear hk
    go_enter Try.func93, Try.ntmps93
    go_wp2_with fail
    refine wp_loop_rounds 2 ?_
    rw [rounds_succ]
    go_wp2
    rw [rounds_succ]
    go_wp2_with fail
    refine HL.out.mono ?_
    rintro e w2 ⟨rfl, rfl⟩
    rw [show ([q] : List Nat).length = 1 from rfl, HT.out]
    go_wp2
    go_ret2
    exact ⟨_, rfl, HO.out, (Below.refl _ _).alloc (Nat.le_refl _) _⟩
end
end Go.Proofs.Ytpoaadjhaknhdaa

/- Natural numbers of one limb: divide, Div, Gcd. -/
namespace Go.Proofs.Ytpoaadjhaknhdaa
open Go Go.RowKit Go.Sort Go.Deep

section
variable {w : World} {u v : Value} {a b : Nat}
set_option maxRecDepth 100000 in
set_option maxHeartbeats 800000 in
theorem divide_one (ha : One w u a) (hb : One w v b) (b0 : 0 < b) : Calls Try.prog 92 #[u, v] w fun e w' => ∃ q r, e = .returned (.tuple #[q, r]) ∧ One w' q (a / b) ∧ One w' r (a % b) ∧ Below w.heap.size w w' := by
  have hb2 := hb.1
  have HA := hid ha
  have HB := hid hb
  obtain ⟨A, na, ca, rfl⟩ : ∃ A n c, u = .slice A n c := by
    rcases ha.cases with ⟨_, A, c, e, _⟩ | ⟨_, _, _, _, e, _⟩ <;> exact ⟨_, _, _, e⟩
  obtain ⟨h, _⟩ | ⟨_, gb, ob, cb, rfl, hgb, hb1, hbc, zb⟩ := hb.cases
  · omega
  clear ha hb
  obtain ⟨r, hrr⟩ : ∃ r, a % b = r := ⟨_, rfl⟩
  have hr : r < b := by rw [← hrr]; exact Nat.mod_lt _ b0
  rw [hrr]
  have HR := hid hrr
  clear hrr
  by_cases hlt : a < b
  · have hc : cmpN a b = -1 := by unfold cmpN; rw [if_pos hlt]
    rw [Nat.div_eq_of_lt hlt]
    obtain rfl : a = r := by rw [← HR.out, Nat.mod_eq_of_lt hlt]
    have HC := hid hc
    go_enter Try.func92, Try.ntmps92
    go_wp2_with fail
    refine (cmp_one HA.out HB.out).mono ?_
    rintro e w2 ⟨rfl, hb2⟩
    rw [HC.out]
    go_wp2_with fail
    refine (trim_one (HA.out.below hb2)).mono ?_
    rintro e w3 ⟨v3, rfl, hv3, hb3⟩
    go_wp2
    go_ret2
    exact ⟨_, _, rfl, One.nil _, hv3, hb2.trans (hb3.mono hb2.size)⟩
  · obtain ⟨c, hc⟩ : ∃ c, cmpN a b = c := ⟨_, rfl⟩
    have hc0 : ¬ c < 0 := by rw [← hc]; unfold cmpN; rw [if_neg hlt]; split <;> omega
    have HC := hid hc
    clear hc
    go_enter Try.func92, Try.ntmps92
    go_wp2_with fail
    refine (cmp_one HA.out HB.out).mono ?_
    rintro e w2 ⟨rfl, hb2⟩
    rw [HC.out]
    have z2 : w2.cell? ⟨gb, ob, none⟩ = some (u32v b) := (hb2.cell (p := ⟨gb, ob, none⟩) hgb).trans zb
    have HB2 := hid hb2
    have HA2 := hid (HA.out.below hb2)
    clear hb2 zb
    go_wp2_with fail
    refine (short_one HA2.out b b0 (by assumption)).mono ?_
    rintro e w3 ⟨q, rfl, hq, hb3⟩
    have HQ := hid hq
    have HB3 := hid (HB2.out.trans (hb3.mono HB2.out.size))
    rw [HR.out]
    clear hq hb3
    go_wp2_with fail
    refine (make_one r (by omega) _).mono ?_
    rintro e w4 ⟨v4, rfl, hv4, hb4⟩
    go_wp2
    go_ret2
    exact ⟨_, _, rfl, HQ.out.below hb4, hv4, HB3.out.trans (hb4.mono HB3.out.size)⟩
theorem One.form (h : One w v a) : ∃ A c, v = .slice A (lenN a) c ∧ lenN a ≤ c ∧ c ≤ maxLen := by
  rcases h.cases with ⟨rfl, A, c, rfl, h1, _⟩ | ⟨h0, g, off, c, rfl, _, h1, h2, _⟩
  · exact ⟨A, c, rfl, Nat.zero_le _, h1⟩
  · rw [lenN_pos h0]; exact ⟨_, c, rfl, h1, h2⟩
theorem One.drewN (h : One w v a) (n : Nat) : One (w.drewN n) v a := h.below (below_drew w n)
set_option maxRecDepth 100000 in
set_option maxHeartbeats 800000 in
theorem div_one (ha : One w u a) (hb : One w v b) (b0 : 0 < b) : Calls Try.prog 86 #[u, v] w fun e w' => ∃ q r, e = .returned (.tuple #[q, r, .int .i64 0]) ∧ One w' q (a / b) ∧ One w' r (a % b) ∧ Below w.heap.size w w' := by
  obtain ⟨A, ca, rfl, hca, hcam⟩ := ha.form
  obtain ⟨B, cb, rfl, hcb, hcbm⟩ := hb.form
  have HA := hid ha
  have HB := hid hb
  have hlb : lenN b = 1 := lenN_pos b0
  rw [hlb] at HB hcb ⊢
  have hLB := hid (show ∀ n, Calls Try.prog 82 #[.slice B 1 cb] (w.drewN n) fun e w' => e = .returned (.int .i64 1) ∧ w.drewN n = w' from fun n => by
    have := length_one (HB.out.drewN n)
    rwa [hlb] at this)
  obtain ⟨ka, hka⟩ : ∃ k, lenN a = k := ⟨_, rfl⟩
  have hLA := hid (show ∀ n, Calls Try.prog 82 #[.slice A ka ca] (w.drewN n) fun e w' => e = .returned (.int .i64 ka) ∧ w.drewN n = w' from fun n => by
    have := length_one (HA.out.drewN n)
    rwa [hka] at this)
  rw [hka] at hca HA ⊢
  unfold maxLen at hcam hcbm
  have hcbI : (1 : Int) ≤ (cb : Int) := by omega
  have hcaI : (ka : Int) ≤ (ca : Int) := by omega
  clear ha hb hlb hka
  go_enter Try.func86, Try.ntmps86
  go_wp2_with fail
  refine (large_one HA.out).mono ?_
  rintro e w2 ⟨rfl, rfl⟩
  go_wp2_with fail
  refine (large_one HB.out).mono ?_
  rintro e w2 ⟨rfl, rfl⟩
  go_wp2_with fail
  refine (hLB.out 0).mono ?_
  rintro e w2 ⟨rfl, e2⟩
  obtain rfl : w = w2 := e2
  go_upto_region 5 with fail
  have hLA1 := hid (show Calls Try.prog 82 #[.slice A ka ca] w.drew (fun e w' => e = .returned (.int .i64 ka) ∧ w.drew = w') from hLA.out 1)
  have hLB1 := hid (show Calls Try.prog 82 #[.slice B 1 cb] w.drew (fun e w' => e = .returned (.int .i64 1) ∧ w.drew = w') from hLB.out 1)
  have HA1 := hid (show One w.drew (.slice A ka ca) a from HA.out.drewN 1)
  have HB1 := hid (show One w.drew (.slice B 1 cb) b from HB.out.drewN 1)
  go_region_held3 (fun _ => True) (trivial)
    ((first
      | (go_at_call 82; (first | with_reducible refine hLA1.out.mono ?_ | with_reducible refine hLB1.out.mono ?_); rintro e wx ⟨rfl, rfl⟩)
      | (go_at_call 92; refine (divide_one HA1.out HB1.out b0).mono ?_; rintro e wx ⟨q, r, rfl, hq, hr, hb⟩; have HQ := hid (And.intro hq (And.intro hr hb)); clear hq hr hb)))
  all_goals
    obtain ⟨hq, hr, hb⟩ := HQ.out
    clear HQ
    go_wp2
    go_ret3
    exact ⟨_, _, rfl, hq, hr, ((Below.refl w.heap.size w).drew).trans hb⟩
end
end Go.Proofs.Ytpoaadjhaknhdaa

/- Natural numbers of one limb: Gcd, Add, Mul. -/
namespace Go.Proofs.Ytpoaadjhaknhdaa
open Go Go.RowKit Go.Sort Go.Deep

section
variable {w : World} {u v : Value} {a b : Nat}
set_option maxRecDepth 100000 in
set_option maxHeartbeats 800000 in
theorem gcd_one (ha : One w u a) (hb : One w v b) : Calls Try.prog 85 #[u, v] w fun e w' => ∃ g, e = .returned (.tuple #[g, .int .i64 0]) ∧ One w' g (Nat.gcd a b) ∧ Below w.heap.size w w' := by
  have HA := hid ha
  have HB := hid hb
  clear ha hb
  go_enter Try.func85, Try.ntmps85
  go_wp2_with fail
  refine (large_one HA.out).mono ?_
  rintro e w2 ⟨rfl, rfl⟩
  go_wp2_with fail
  refine (large_one HB.out).mono ?_
  rintro e w2 ⟨rfl, rfl⟩
  go_wp2_with fail
  refine (trim_one HA.out).mono ?_
  rintro e w2 ⟨u2, rfl, hu2, hb2⟩
  have HU2 := hid hu2
  have HB2 := hid hb2
  clear hu2 hb2
  go_wp2_with fail
  refine (trim_one (HB.out.below HB2.out)).mono ?_
  rintro e w3 ⟨v3, rfl, hv3, hb3⟩
  have HX3 := hid (HB2.out.trans (hb3.mono HB2.out.size))
  have HU3 := hid (HU2.out.below hb3)
  have HV3 := hid hv3
  clear hv3 hb3 HU2 HB2
  go_wp2_with fail
  go_loopg [0, 1] b (fun k p q wr => ∃ x y : Nat, Hid (y ≤ k) ∧ Hid (One wr p x) ∧ Hid (One wr q y) ∧ Hid (Nat.gcd x y = Nat.gcd a b) ∧ Hid (Below w.heap.size w wr))
  case atStart => exact ⟨a, b, hid (Nat.le_refl _), HU3, HV3, hid rfl, HX3⟩
  case round =>
    obtain ⟨x, y, HK, HP, HQ, HG, HX⟩ := hrel
    rcases HQ.out.cases with ⟨rfl, B, cb, rfl, _⟩ | ⟨y0, gb, ob, cb, rfl, hgb, hb1, hbc, zb⟩
    · go_wp2
      go_ret2
      exact ⟨_, rfl, by have := HG.out; rw [Nat.gcd_zero_right] at this; rw [← this]; exact HP.out, HX.out⟩
    · clear zb
      go_wp2_with fail
      refine (divide_one HP.out HQ.out y0).mono ?_
      rintro e w5 ⟨q, r, rfl, hq, hr, hb5⟩
      have HR := hid hr
      have HQ5 := hid (HQ.out.below hb5)
      have HX5 := hid (HX.out.trans (hb5.mono HX.out.size))
      clear hq hr hb5
      go_wp2
      go_roundg (x % y)
      case measure => exact Nat.lt_of_lt_of_le (Nat.mod_lt _ y0) HK.out
      case rel => exact ⟨y, x % y, hid (Nat.le_refl _), HQ5, HR, hid (by rw [← HG.out, Nat.gcd_comm x y, Nat.gcd_rec y x, Nat.gcd_comm]), HX5⟩
end
end Go.Proofs.Ytpoaadjhaknhdaa
