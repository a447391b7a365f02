/- The walk of SectorLinear. -/
import Derived.Test.YtmgghigongjjcaaLawC
namespace Go.Proofs.Ytmgghigongjjcaa
open Go.RowKit Go.Sort

theorem make_row (n : Nat) : madeCells #[.int .u8 0] n = row (zeros n) := by
  apply Array.ext_getElem?
  intro i
  unfold madeCells row zeros
  by_cases h : i < n
  · simp [h, bv, Nat.mod_one]
  · simp [h]
/-- 'make([]byte, n)' in a walk: a row of zero bytes, in a new block. -/
theorem wpList_make {w : World} {ops : Array Oper} {rest : List Oper} {o : Oper} {a : Act} {Q : Exit → Act → World → Prop} (hgd : o.guard = none) (x y : Operand)
    (ho : o.op = .makeSlice 30 x y) (n : Nat) (hn : n ≤ 1000) (hx : a.eval x = .int .i64 n) (hy : a.eval y = .int .i64 n)
    (h : ∀ w', RowAt w' w.heap.size (zeros n) → w.heap.size < w'.heap.size → Below w.heap.size w w' → wpList Try.prog ops Q rest (a.put o.dst (.slice (some ⟨w.heap.size, 0, none⟩) n n)) w') : wpList Try.prog ops Q (o :: rest) a w := by
  obtain ⟨i0, hi, hz0, hz1, hz2⟩ := info_parts Try.info_u8
  refine wpList_plain hgd fun K hK => ?_
  have hrun := run_make (P := Try.prog) w 30 5 i0 (.int .u8 0) Try.underlying30 hi hz0 .i64 .i64 n n (by omega) (Int.le_refl _) (by rw [hz2]; omega) (by omega)
  rw [Int.toNat_natCast, hz1, Nat.mul_one, show (Value.int IntKind.u8 0).cells = #[.int .u8 0] from rfl, make_row] at hrun
  unfold Oper.wp
  simp [execOp, ho, hx, hy, hrun, Result.andThen]
  exact hK _ _ (h _ (row_new w _ _) (by simp) ((Below.refl _ _).alloc (Nat.le_refl _) _))

/-- After k rounds. -/
def lin (a b c : List UInt8) (n k : Nat) : List UInt8 := List.zipWith (· ^^^ ·) (List.zipWith (· ^^^ ·) (a.take k) (b.take k)) (c.take k) ++ zeros (n - k)

theorem lin_length (a b c : List UInt8) (n k : Nat) (hk : k ≤ n) (ha : n ≤ a.length) (hb : n ≤ b.length) (hc : n ≤ c.length) : (lin a b c n k).length = n := by
  simp [lin, zeros]; omega
theorem lin_set (a b c : List UInt8) (n k : Nat) (hk : k < n) (ha : n ≤ a.length) (hb : n ≤ b.length) (hc : n ≤ c.length) (x : UInt8) (hx : x = (a[k] ^^^ b[k]) ^^^ c[k]) : (lin a b c n k).set k x = lin a b c n (k + 1) := by
  unfold lin
  have hl : (List.zipWith (· ^^^ ·) (List.zipWith (· ^^^ ·) (a.take k) (b.take k)) (c.take k)).length = k := by simp; omega
  rw [List.set_append, if_neg (by omega), hl, Nat.sub_self]
  have e : List.zipWith (· ^^^ ·) (List.zipWith (· ^^^ ·) (a.take (k + 1)) (b.take (k + 1))) (c.take (k + 1)) = List.zipWith (· ^^^ ·) (List.zipWith (· ^^^ ·) (a.take k) (b.take k)) (c.take k) ++ [x] := by
    rw [List.take_succ_eq_append_getElem (by omega : k < a.length), List.take_succ_eq_append_getElem (by omega : k < b.length), List.take_succ_eq_append_getElem (by omega : k < c.length),
      List.zipWith_append (by simp; omega), List.zipWith_append (by simp; omega), hx]
    rfl
  rw [e, List.append_assoc]
  congr 1
  obtain ⟨m, hm⟩ : ∃ m, n - k = m + 1 := ⟨n - k - 1, by omega⟩
  rw [hm, show n - (k + 1) = m by omega]
  rfl
theorem lin_crc (a b c : List UInt8) (n : Nat) (ha : n ≤ a.length) (hb : n ≤ b.length) (hc : n ≤ c.length) : crc (lin a b c n n) = crc (a.take n) ^^^ crc (b.take n) ^^^ crc (c.take n) := by
  unfold lin
  rw [Nat.sub_self, show zeros 0 = [] from rfl, List.append_nil, crc_xor3 _ _ _ (by simp; omega) (by simp; omega)]

set_option maxHeartbeats 2000000 in
theorem law_linear (a b c : ByteArray) (w : World) (ha : a.size ≤ maxLen) :
    Calls Try.prog 11 #[.string a, .string b, .string c] w fun e w' => e = .returned (.bool true) ∧ Below w.heap.size w w' := by
  unfold maxLen at ha
  go_enter Try.func11, Try.ntmps11
  go_upto_region 1 with (fail)
  go_cut [7] (fun s7 wx => ∃ n : Nat, s7 = .int .i64 n ∧ n ≤ a.size ∧ n ≤ b.size ∧ n ≤ c.size ∧ w = wx)
  case first =>
    by_cases h1 : b.size < a.size
    · by_cases h2 : c.size < b.size
      · go_wp2_with fail
        go_meet
        exact ⟨c.size, by simp, by omega, by omega, by omega, rfl⟩
      · go_wp2_with fail
        go_meet
        exact ⟨b.size, by simp, by omega, by omega, by omega, rfl⟩
    · by_cases h2 : c.size < a.size
      · go_wp2_with fail
        go_meet
        exact ⟨c.size, by simp, by omega, by omega, by omega, rfl⟩
      · go_wp2_with fail
        go_meet
        exact ⟨a.size, by simp, by omega, by omega, by omega, rfl⟩
  case rest =>
    obtain ⟨n, rfl, na, nb, nc, rfl⟩ := hcut
    by_cases hn : 200 < n
    · go_wp2_with (go_at_call 12; refine (awake_any _).mono ?_; rintro e w' ⟨rfl, hb⟩)
      go_ret
      exact ⟨rfl, hb⟩
    · go_wp2_with (refine wpList_make rfl (.tmp 20) (.tmp 20) rfl n (by omega) rfl rfl ?_)
      intro w1 hrow hlt hb1
      go_wp2
      go_loopw [9] (fun i wr => ∃ k : Nat, k ≤ n ∧ i = .int .i64 k ∧ RowAt wr w.heap.size (lin a.data.toList b.data.toList c.data.toList n k) ∧ Below w.heap.size w wr) (fun i _ => (n - intOf i).toNat)
      case atStart => exact ⟨0, Nat.zero_le _, rfl, hrow.eq (by simp [lin, zeros]), hb1⟩
      case round =>
        clear hrow hb1
        obtain ⟨k, hk, rfl, hrow, hbl⟩ := hrel
        by_cases hlt2 : k < n
        · have ka : k < a.size := by omega
          have kb : k < b.size := by omega
          have kc : k < c.size := by omega
          have xa := xor_u8 a[k] b[k]
          have xc := xor_u8 (a[k] ^^^ b[k]) c[k]
          go_wp2_with fail
          refine wp_region_quiet_tail 14 (fun w' => ∃ n, w' = wr.drewN n) ⟨1, rfl⟩ (by kernel_rfl) (by kernel_rfl) ?_
          simp only [List.take_succ_cons, List.take_zero, List.drop_succ_cons, List.drop_zero]
          repeat (go_big_quiet_step (fail))
          refine wpQuiet_nil ?_
          rintro _ ⟨nq, rfl⟩
          have hll : n ≤ (lin a.data.toList b.data.toList c.data.toList n k).length := Nat.le_of_eq (lin_length a.data.toList b.data.toList c.data.toList n k hk (by simpa using na) (by simpa using nb) (by simpa using nc)).symm
          have hc := (hrow.drewN nq).cell k (by omega)
          have hf := (hrow.drewN nq).free k (by omega)
          have hst := (hrow.drewN nq).store k ((a[k] ^^^ b[k]) ^^^ c[k]) (by omega)
          rw [lin_set a.data.toList b.data.toList c.data.toList n k hlt2 (by simpa using na) (by simpa using nb) (by simpa using nc) _ (by rfl), ← xor_u8] at hst
          have HST := hid hst
          clear hst xa xc
          go_wp2
          go_roundw
          case rel => exact ⟨k + 1, by omega, by go_num, HST.out, (below_drewN hbl nq).setCell (Nat.le_refl _) _⟩
          case measure => (simp [intOf]; try omega)
        · obtain rfl : k = n := by omega
          have hll := lin_length a.data.toList b.data.toList c.data.toList k k hk (by simpa using na) (by simpa using nb) (by simpa using nc)
          have hlc := lin_crc a.data.toList b.data.toList c.data.toList k (by simpa using na) (by simpa using nb) (by simpa using nc)
          have HLC := hid hlc
          have hcv : ∀ d os, (convert 30 9 (.slice (some ⟨w.heap.size, 0, none⟩) k k)).run Try.prog (grow (redrawn wr d) os) = .ok (str (lin a.data.toList b.data.toList c.data.toList k k)) (grow (redrawn wr d) os) := by
            intro d os
            have := run_str (P := Try.prog) 30 5 9 Try.underlying30 Try.underlying5 Try.underlying9 (hrow.below (below_regrown wr d os) hrow.lt) 0 k k (by omega)
            rwa [List.drop_zero, List.take_of_length_le (by omega)] at this
          have hsum : ∀ (x : ByteArray), k ≤ x.size → ∀ W, Calls Try.prog 22 #[.string (x.extract 0 k)] W fun e w' => e = .returned (Go.Proofs.Ytmgghigongjjcaa.u32 (crc (x.data.toList.take k))) ∧ Below W.heap.size W w' := by
            intro x hx W
            refine (sum_prog (x.extract 0 k) W (by unfold maxLen; simp; omega)).mono ?_
            rintro e w' ⟨rfl, rfl⟩
            exact ⟨by rw [extract_toList]; rfl, Below.refl _ _⟩
          have hsl : ∀ W, Calls Try.prog 22 #[str (lin a.data.toList b.data.toList c.data.toList k k)] W fun e w' => e = .returned (Go.Proofs.Ytmgghigongjjcaa.u32 (crc (lin a.data.toList b.data.toList c.data.toList k k))) ∧ Below W.heap.size W w' := by
            intro W
            refine (sum_prog _ W ?_).mono ?_
            · show (lin a.data.toList b.data.toList c.data.toList k k).length ≤ maxLen
              rw [hll]; unfold maxLen; omega
            · rintro e w' ⟨rfl, rfl⟩
              exact ⟨rfl, Below.refl _ _⟩
          have HSA := hid (hsum a na)
          have HSB := hid (hsum b nb)
          have HSC := hid (hsum c nc)
          have HSL := hid hsl
          clear hsum hsl hlc hll
          generalize lin a.data.toList b.data.toList c.data.toList k k = L at *
          generalize crc (a.data.toList.take k) = ca at *
          generalize crc (b.data.toList.take k) = cb at *
          generalize crc (c.data.toList.take k) = cc at *
          have x1 := xor_u32 ca cb
          have x2 := xor_u32 (ca ^^^ cb) cc
          have HX1 := hid x1
          have HX2 := hid x2
          clear x1 x2
          go_wp2_with fail
          refine wp_region_quiet_below (by kernel_rfl) (by kernel_rfl) ?_
          repeat (go_big_quiet_step ((first | (go_at_call 12; exact Calls.regrown_of (awake_any _)) | (go_at_call 22; first | (go_at_call_of 22 (Value.string (a.extract 0 k)); exact Calls.regrown_of (HSA.out _)) | (go_at_call_of 22 (Value.string (b.extract 0 k)); exact Calls.regrown_of (HSB.out _)) | (go_at_call_of 22 (Value.string (c.extract 0 k)); exact Calls.regrown_of (HSC.out _)) | (go_at_call_of 22 (str L); exact Calls.regrown_of (HSL.out _))))))
          refine wpQuiet_nil ?_
          rintro _ ⟨p, rfl⟩
          have hb2 := hbl.trans ((below_regrown wr p.d p.os).mono hbl.size)
          go_wp2
          go_ret
          refine ⟨?_, hb2⟩
          rw [HX1.out, HX2.out, HLC.out, beq_self_eq_true]
          rfl
end Go.Proofs.Ytmgghigongjjcaa
