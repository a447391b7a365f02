/- Sealed and Encode of the reference. -/
import Derived.Test.YtegekmdechcikaaEnc
namespace Go.Proofs.Ytegekmdechcikaa
open Go.RowKit
attribute [local go_sem ↓] Go.wp_at_zero Go.wp_at_succ

theorem bcell {W w1 : World} (hb : Below W.heap.size W w1) : (∀ b o, b < W.heap.size → w1.cell? ⟨b, o, none⟩ = W.cell? ⟨b, o, none⟩) ∧ (∀ b o, b < W.heap.size → w1.frozen? ⟨b, o, none⟩ = W.frozen? ⟨b, o, none⟩) :=
  ⟨fun b o h => hb.cell (p := ⟨b, o, none⟩) h, fun b o h => hb.frozen (p := ⟨b, o, none⟩) h⟩

theorem append_str (s : ByteArray) (l : List UInt8) : s ++ (⟨l.toArray⟩ : ByteArray) = ⟨(s.data.toList ++ l).toArray⟩ := by
  apply ByteArray.ext
  simp [ByteArray.data_append]

set_option maxHeartbeats 400000 in
theorem sealed_any (s : ByteArray) (w : World) (hs : s.size ≤ 1000) :
    Calls Try.prog 41 #[.string s] w fun e w' => e = .returned (str (sealL s.data.toList)) ∧ Below w.heap.size w w' := by
  have hcr := u32_range (crc s.data.toList)
  go_enter Try.func41, Try.ntmps41
  go_wp2_with fail
  refine (sum_ref s _ (by unfold maxLen; omega)).mono ?_
  rintro e w1 ⟨rfl, rfl⟩
  go_wp2_with fail
  refine (big_ref _ 4 _ (by omega) (by omega)).mono ?_
  rintro e w1 ⟨rfl, hb⟩
  have hl : (big 4 ((crc s.data.toList).toNat : Int)).length ≤ 4 := by rw [big_length]; omega
  go_wp2
  go_ret
  exact ⟨ret_val (by rw [append_str]; rfl), hb⟩

set_option maxHeartbeats 1000000 in
theorem enc_ref_no (v f s g ve : Int) (d : ByteArray) (w : World) (hv : validB v f s g ve d.size = false) :
    Calls Try.prog 14 #[.agg #[.int .i64 v, .int .i64 f, .int .i64 s, .int .i64 g, .int .i64 ve, .string d]] w fun e w' => e = .returned (.tuple #[.string ⟨#[]⟩, .int .i64 100]) ∧ Below w.heap.size w w' := by
  go_enter Try.func14, Try.ntmps14
  go_wp2_with (go_at_call 39; refine (valid_ref v f s g ve d _).mono ?_; rintro e w' ⟨rfl, rfl⟩; rw [hv])
  go_ret2
  exact ⟨rfl, ((Below.refl _ _).alloc (Nat.le_refl _) _).alloc (by simp) _⟩

theorem enc_cat (v f s g ve : Int) (d : ByteArray) : (((((⟨#[93, byteOf v, byteOf f, byteOf s]⟩ : ByteArray) ++ (⟨(big 5 g).toArray⟩ : ByteArray)) ++ (⟨(big 5 ve).toArray⟩ : ByteArray)) ++ (⟨#[0, 0]⟩ : ByteArray)) ++ d).data.toList = headL v f s g ve d.data.toList := by
  simp [headL, ByteArray.data_append]
theorem enc_flat (v f s g ve : Int) (l : List UInt8) : encL v f s g ve l = sealL (93 :: byteOf v :: byteOf f :: byteOf s :: (big 5 g ++ (big 5 ve ++ 0 :: 0 :: l))) := by
  simp [encL, headL]
theorem enc_size (v f s g ve : Int) (d : ByteArray) (h : d.size = 16) : (((((⟨#[93, byteOf v, byteOf f, byteOf s]⟩ : ByteArray) ++ (⟨(big 5 g).toArray⟩ : ByteArray)) ++ (⟨(big 5 ve).toArray⟩ : ByteArray)) ++ (⟨#[0, 0]⟩ : ByteArray)) ++ d).size ≤ 1000 := by
  have e := enc_cat v f s g ve d
  have h2 := congrArg List.length e
  rw [headL_length _ _ _ _ _ _ (by simpa using h)] at h2
  simp only [Array.length_toList] at h2
  exact Nat.le_trans (Nat.le_of_eq h2) (by omega)

set_option maxHeartbeats 4000000 in
theorem enc_ref_yes (v f s g ve : Int) (d : ByteArray) (w : World) (hv : validB v f s g ve d.size = true) :
    Calls Try.prog 14 #[.agg #[.int .i64 v, .int .i64 f, .int .i64 s, .int .i64 g, .int .i64 ve, .string d]] w fun e w' => e = .returned (.tuple #[str (encL v f s g ve d.data.toList), .int .i64 0]) ∧ Below w.heap.size w w' := by
  have hbd := hv
  simp only [validB, decide_eq_true_eq] at hbd
  obtain ⟨v0, v1, fl0, fl1, s0, s1, g0, g1, e0, e1, hds⟩ := hbd
  have hdl : d.data.toList.length = 16 := by simpa using hds
  have HDL := hid hdl
  have HDS := hid hds
  clear hdl hds
  have sv : IntKind.u8.wrap v = v := by simp [IntKind.wrap, IntKind.bits, IntKind.signed]; omega
  have sf : IntKind.u8.wrap f = f := by simp [IntKind.wrap, IntKind.bits, IntKind.signed]; omega
  have ss : IntKind.u8.wrap s = s := by simp [IntKind.wrap, IntKind.bits, IntKind.signed]; omega
  go_enter Try.func14, Try.ntmps14
  go_wp2_with (go_at_call 39; refine (valid_ref v f s g ve d _).mono ?_; rintro e w' ⟨rfl, rfl⟩; rw [hv])
  have hp1 : Piece ((w.alloc (.cells #[.int .i64 v, .int .i64 f, .int .i64 s, .int .i64 g, .int .i64 ve, .string d] 23)).alloc (.cells #[.int .i64 v, .int .i64 f, .int .i64 s, .int .i64 g, .int .i64 ve, .string d] 23)) w.heap.size v f s g ve d 23 := (piece_new w v f s g ve d 23).alloc _
  have hb1 : Below w.heap.size w ((w.alloc (.cells #[.int .i64 v, .int .i64 f, .int .i64 s, .int .i64 g, .int .i64 ve, .string d] 23)).alloc (.cells #[.int .i64 v, .int .i64 f, .int .i64 s, .int .i64 g, .int .i64 ve, .string d] 23)) := ((Below.refl _ _).alloc (Nat.le_refl _) _).alloc (by simp) _
  generalize ((w.alloc (.cells #[.int .i64 v, .int .i64 f, .int .i64 s, .int .i64 g, .int .i64 ve, .string d] 23)).alloc (.cells #[.int .i64 v, .int .i64 f, .int .i64 s, .int .i64 g, .int .i64 ve, .string d] 23)) = w1 at hp1 hb1 ⊢
  obtain ⟨c0, c1, c2, c3, c4, c5⟩ := hp1.cells
  have hlt := hp1.lt
  clear hv
  have hcv : ∀ (W : World) (b : Nat), W.cell? ⟨b, 0, none⟩ = some (.int .u8 93) → W.cell? ⟨b, 1, none⟩ = some (.int .u8 v) → W.cell? ⟨b, 2, none⟩ = some (.int .u8 f) → W.cell? ⟨b, 3, none⟩ = some (.int .u8 s) →
      (convert 90 9 (.slice (some ⟨b, 0, none⟩) 4 4)).run Try.prog W = .ok (str [93, byteOf v, byteOf f, byteOf s]) W := by
    intro W b h0 h1 h2 h3
    refine run_convert_bytes_back (P := Try.prog) W 90 9 5 ⟨b, 0, none⟩ 4 [93, byteOf v, byteOf f, byteOf s] Try.underlying90 Try.underlying5 Try.underlying9 (fun j hj => ?_)
    rw [add_plain, Nat.zero_add]
    rcases j with _ | _ | _ | _ | j
    · exact h0
    · show W.cell? ⟨b, 1, none⟩ = some (.int .u8 ((byteOf v).toNat : Int)); rw [byteOf_small v v0 (by omega)]; exact h1
    · show W.cell? ⟨b, 2, none⟩ = some (.int .u8 ((byteOf f).toNat : Int)); rw [byteOf_small f fl0 (by omega)]; exact h2
    · show W.cell? ⟨b, 3, none⟩ = some (.int .u8 ((byteOf s).toNat : Int)); rw [byteOf_small s s0 (by omega)]; exact h3
    · simp at hj; omega
  have sg : IntKind.u64.wrap g = g := by simp [IntKind.wrap, IntKind.bits, IntKind.signed]; omega
  have se : IntKind.u64.wrap ve = ve := by simp [IntKind.wrap, IntKind.bits, IntKind.signed]; omega
  have lg : (big 5 g).length = 5 := big_length _ _
  have le : (big 5 ve).length = 5 := big_length _ _
  have ld : d.size = 16 := HDS.out
  have S9 : ∀ {W : World} {o : Obj}, W.cell? ⟨w.heap.size, 0, none⟩ = some (.int .i64 v) → W.cell? ⟨w.heap.size, 1, none⟩ = some (.int .i64 f) → W.cell? ⟨w.heap.size, 2, none⟩ = some (.int .i64 s) → W.cell? ⟨w.heap.size, 3, none⟩ = some (.int .i64 g) → W.cell? ⟨w.heap.size, 4, none⟩ = some (.int .i64 ve) → W.cell? ⟨w.heap.size, 5, none⟩ = some (.string d) → w.heap.size < W.heap.size → Below w.heap.size w W →
      (W.alloc o).cell? ⟨w.heap.size, 0, none⟩ = some (.int .i64 v) ∧ (W.alloc o).cell? ⟨w.heap.size, 1, none⟩ = some (.int .i64 f) ∧ (W.alloc o).cell? ⟨w.heap.size, 2, none⟩ = some (.int .i64 s) ∧ (W.alloc o).cell? ⟨w.heap.size, 3, none⟩ = some (.int .i64 g) ∧ (W.alloc o).cell? ⟨w.heap.size, 4, none⟩ = some (.int .i64 ve) ∧ (W.alloc o).cell? ⟨w.heap.size, 5, none⟩ = some (.string d) ∧ w.heap.size < (W.alloc o).heap.size ∧ Below w.heap.size w (W.alloc o) := by
    intro W o a0 a1 a2 a3 a4 a5 al ab
    exact ⟨(World.cell?_alloc_lt _ _ _ al).trans a0, (World.cell?_alloc_lt _ _ _ al).trans a1, (World.cell?_alloc_lt _ _ _ al).trans a2, (World.cell?_alloc_lt _ _ _ al).trans a3, (World.cell?_alloc_lt _ _ _ al).trans a4, (World.cell?_alloc_lt _ _ _ al).trans a5, by simp; omega, ab.alloc (by omega) _⟩
  refine wp_region_held_drew (S := fun w' => w'.cell? ⟨w.heap.size, 0, none⟩ = some (.int .i64 v) ∧ w'.cell? ⟨w.heap.size, 1, none⟩ = some (.int .i64 f) ∧ w'.cell? ⟨w.heap.size, 2, none⟩ = some (.int .i64 s) ∧ w'.cell? ⟨w.heap.size, 3, none⟩ = some (.int .i64 g) ∧ w'.cell? ⟨w.heap.size, 4, none⟩ = some (.int .i64 ve) ∧ w'.cell? ⟨w.heap.size, 5, none⟩ = some (.string d) ∧ w.heap.size < w'.heap.size ∧ Below w.heap.size w w') (by kernel_rfl) ?_ (fun hHeld => ?_)
  · exact ⟨c0, c1, c2, c3, c4, c5, hlt, hb1.drew⟩
  refine take_mk 0 (v := ?vv1) rfl (by kernel_rfl) (by kernel_rfl) (by kernel_rfl) (fun _ _ _ h => h) (Or.inl ⟨by rfl, ?hy1⟩) (by assumption) ?_
  case hy1 => (intro wx hSw; (try dsimp only at hSw); go_simp; try with_reducible rfl)
  try simp only [Act.put, List.setIfInBounds_toArray, List.set_cons_zero, List.set_cons_succ]
  refine take_mk 1 (v := ?vv2) rfl (by kernel_rfl) (by kernel_rfl) (by kernel_rfl) (fun _ _ _ h => h) (Or.inl ⟨by rfl, ?hy2⟩) (by assumption) ?_
  case hy2 => (intro wx hSw; (try dsimp only at hSw); go_simp; try with_reducible rfl)
  try simp only [Act.put, List.setIfInBounds_toArray, List.set_cons_zero, List.set_cons_succ]
  refine take_mk 2 (v := ?vv3) rfl (by kernel_rfl) (by kernel_rfl) (by kernel_rfl) (fun _ _ _ h => h) (Or.inl ⟨by rfl, ?hy3⟩) (by assumption) ?_
  case hy3 => (intro wx hSw; (try dsimp only at hSw); go_simp; try with_reducible rfl)
  try simp only [Act.put, List.setIfInBounds_toArray, List.set_cons_zero, List.set_cons_succ]
  refine take_mk 3 (v := ?vv4) rfl (by kernel_rfl) (by kernel_rfl) (by kernel_rfl) (fun _ _ _ h => h) (Or.inl ⟨by rfl, ?hy4⟩) (by assumption) ?_
  case hy4 => (intro wx hSw; (try dsimp only at hSw); go_simp; try with_reducible rfl)
  try simp only [Act.put, List.setIfInBounds_toArray, List.set_cons_zero, List.set_cons_succ]
  refine take_mk 4 (v := ?vv5) rfl (by kernel_rfl) (by kernel_rfl) (by kernel_rfl) (fun _ _ _ h => h) (Or.inl ⟨by rfl, ?hy5⟩) (by assumption) ?_
  case hy5 => (intro wx hSw; (try dsimp only at hSw); go_simp; try with_reducible rfl)
  try simp only [Act.put, List.setIfInBounds_toArray, List.set_cons_zero, List.set_cons_succ]
  refine take_mk 5 (v := ?vv6) rfl (by kernel_rfl) (by kernel_rfl) (by kernel_rfl) (fun _ _ _ h => h) (Or.inl ⟨by rfl, ?hy6⟩) (by assumption) ?_
  case hy6 => (intro wx hSw; (try dsimp only at hSw); go_simp; try with_reducible rfl)
  try simp only [Act.put, List.setIfInBounds_toArray, List.set_cons_zero, List.set_cons_succ]
  refine take_mk 6 (v := ?vv7) rfl (by kernel_rfl) (by kernel_rfl) (by kernel_rfl) (fun _ _ _ h => h) (Or.inl ⟨by rfl, ?hy7⟩) (by assumption) ?_
  case hy7 => (intro wx hSw; (try dsimp only at hSw); go_simp; try with_reducible rfl)
  try simp only [Act.put, List.setIfInBounds_toArray, List.set_cons_zero, List.set_cons_succ]
  refine take_mk 7 (v := ?vv8) rfl (by kernel_rfl) (by kernel_rfl) (by kernel_rfl) (fun _ _ _ h => h) (Or.inl ⟨by rfl, ?hy8⟩) (by assumption) ?_
  case hy8 => (intro wx hSw; (try dsimp only at hSw); go_simp; try with_reducible rfl)
  try simp only [Act.put, List.setIfInBounds_toArray, List.set_cons_zero, List.set_cons_succ]
  refine take_mk 8 (v := ?vv9) rfl (by kernel_rfl) (by kernel_rfl) (by kernel_rfl) (fun _ _ _ h => h) (Or.inl ⟨by rfl, ?hy9⟩) (by assumption) ?_
  case hy9 => (intro wx hSw; (try dsimp only at hSw); go_simp; try with_reducible rfl)
  try simp only [Act.put, List.setIfInBounds_toArray, List.set_cons_zero, List.set_cons_succ]
  refine take_mk 11 (v := ?vv10) rfl (by kernel_rfl) (by kernel_rfl) (by kernel_rfl) (fun _ _ _ h => h) (Or.inl ⟨by rfl, ?hy10⟩) (by assumption) ?_
  case hy10 => (intro wx hSw; (try dsimp only at hSw); go_simp; try with_reducible rfl)
  try simp only [Act.put, List.setIfInBounds_toArray, List.set_cons_zero, List.set_cons_succ]
  refine take_mk 12 (v := ?vv11) rfl (by kernel_rfl) (by kernel_rfl) (by kernel_rfl) (fun _ _ _ h => h) (Or.inl ⟨by rfl, ?hy11⟩) (by assumption) ?_
  case hy11 => (intro wx hSw; (try dsimp only at hSw); go_simp; try with_reducible rfl)
  try simp only [Act.put, List.setIfInBounds_toArray, List.set_cons_zero, List.set_cons_succ]
  refine take_mk 13 (v := ?vv12) rfl (by kernel_rfl) (by kernel_rfl) (by kernel_rfl) (fun _ _ _ h => h) (Or.inl ⟨by rfl, ?hy12⟩) (by assumption) ?_
  case hy12 => (intro wx hSw; (try dsimp only at hSw); go_simp; try with_reducible rfl)
  try simp only [Act.put, List.setIfInBounds_toArray, List.set_cons_zero, List.set_cons_succ]
  refine take_mk 16 (v := ?vv13) rfl (by kernel_rfl) (by kernel_rfl) (by kernel_rfl) (fun _ _ _ h => h) (Or.inl ⟨by rfl, ?hy13⟩) (by assumption) ?_
  case hy13 => (intro wx hSw; (try dsimp only at hSw); go_simp; try with_reducible rfl)
  try simp only [Act.put, List.setIfInBounds_toArray, List.set_cons_zero, List.set_cons_succ]
  refine take_mk 17 (v := ?vv14) rfl (by kernel_rfl) (by kernel_rfl) (by kernel_rfl) (fun _ _ _ h => h) (Or.inl ⟨by rfl, ?hy14⟩) (by assumption) ?_
  case hy14 => (intro wx hSw; (try dsimp only at hSw); go_simp; try with_reducible rfl)
  try simp only [Act.put, List.setIfInBounds_toArray, List.set_cons_zero, List.set_cons_succ]
  refine take_mk 18 (v := ?vv15) rfl (by kernel_rfl) (by kernel_rfl) (by kernel_rfl) (fun _ _ _ h => h) (Or.inl ⟨by rfl, ?hy15⟩) (by assumption) ?_
  case hy15 => (intro wx hSw; (try dsimp only at hSw); go_simp; try with_reducible rfl)
  try simp only [Act.put, List.setIfInBounds_toArray, List.set_cons_zero, List.set_cons_succ]
  refine take_mk 22 (v := ?vv16) rfl (by kernel_rfl) (by kernel_rfl) (by kernel_rfl) (fun _ _ _ h => h) (Or.inl ⟨by rfl, ?hy16⟩) (by assumption) ?_
  case hy16 => (intro wx hSw; (try dsimp only at hSw); go_simp; try with_reducible rfl)
  try simp only [Act.put, List.setIfInBounds_toArray, List.set_cons_zero, List.set_cons_succ]
  refine take_mk 23 (v := ?vv17) rfl (by kernel_rfl) (by kernel_rfl) (by kernel_rfl) (fun _ _ _ h => h) (Or.inl ⟨by rfl, ?hy17⟩) (by assumption) ?_
  case hy17 => (intro wx hSw; (try dsimp only at hSw); go_simp; try with_reducible rfl)
  try simp only [Act.put, List.setIfInBounds_toArray, List.set_cons_zero, List.set_cons_succ]
  refine wpAnyH_ready (rs := [9, 14]) (by kernel_rfl) (by simp) ?_
  refine cons_mk rfl (fun K hK => ?_) ?_
  · go_simp
    refine hK.out _ _ ?_ (fun hHeld => ?_)
    · (first | exact hHeld | (obtain ⟨a0, a1, a2, a3, a4, a5, al, ab⟩ := hHeld; exact ⟨(hc _ _ al).trans a0, (hc _ _ al).trans a1, (hc _ _ al).trans a2, (hc _ _ al).trans a3, (hc _ _ al).trans a4, (hc _ _ al).trans a5, Nat.lt_of_lt_of_le al hz, ab.trans (hb.mono (Nat.le_of_lt al))⟩) | (obtain ⟨a0, a1, a2, a3, a4, a5, al, ab⟩ := hHeld; exact S9 a0 a1 a2 a3 a4 a5 al ab))
    clear hK K
    try simp only [Act.put, List.setIfInBounds_toArray, List.set_cons_zero, List.set_cons_succ]
    refine wpAnyH_ready (rs := [10, 14]) (by kernel_rfl) (by simp) ?_
    refine cons_mk rfl (fun K hK => ?_) ?_
    · go_simp
      refine hK.out _ _ ?_ (fun hHeld => ?_)
      · (first | exact hHeld | (obtain ⟨a0, a1, a2, a3, a4, a5, al, ab⟩ := hHeld; exact ⟨(hc _ _ al).trans a0, (hc _ _ al).trans a1, (hc _ _ al).trans a2, (hc _ _ al).trans a3, (hc _ _ al).trans a4, (hc _ _ al).trans a5, Nat.lt_of_lt_of_le al hz, ab.trans (hb.mono (Nat.le_of_lt al))⟩) | (obtain ⟨a0, a1, a2, a3, a4, a5, al, ab⟩ := hHeld; exact S9 a0 a1 a2 a3 a4 a5 al ab))
      clear hK K
      try simp only [Act.put, List.setIfInBounds_toArray, List.set_cons_zero, List.set_cons_succ]
      refine wpAnyH_ready (rs := [14]) (by kernel_rfl) (by simp) ?_
      refine cons_mk rfl (fun K hK => ?_) ?_
      · go_simp
        refine (big_ref _ 5 _ (by omega) (by omega)).mono ?_; rintro e wx ⟨rfl, hb⟩; obtain ⟨hc, hf⟩ := bcell hb; have hz := hb.size; have hz2 := hb.size; (try simp at hz2); go_simp
        refine hK.out _ _ ?_ (fun hHeld => ?_)
        · (first | exact hHeld | (obtain ⟨a0, a1, a2, a3, a4, a5, al, ab⟩ := hHeld; exact ⟨(hc _ _ al).trans a0, (hc _ _ al).trans a1, (hc _ _ al).trans a2, (hc _ _ al).trans a3, (hc _ _ al).trans a4, (hc _ _ al).trans a5, Nat.lt_of_lt_of_le al hz, ab.trans (hb.mono (Nat.le_of_lt al))⟩) | (obtain ⟨a0, a1, a2, a3, a4, a5, al, ab⟩ := hHeld; exact S9 a0 a1 a2 a3 a4 a5 al ab))
        clear hK K
        try simp only [Act.put, List.setIfInBounds_toArray, List.set_cons_zero, List.set_cons_succ]
        refine take_mk 15 (v := ?vv18) rfl (by kernel_rfl) (by kernel_rfl) (by kernel_rfl) (fun _ _ _ h => h) (Or.inl ⟨by rfl, ?hy18⟩) (by assumption) ?_
        case hy18 => (intro wx hSw; (try dsimp only at hSw); go_simp; try with_reducible rfl)
        try simp only [Act.put, List.setIfInBounds_toArray, List.set_cons_zero, List.set_cons_succ]
        refine wpAnyH_ready (rs := [19]) (by kernel_rfl) (by simp) ?_
        refine cons_mk rfl (fun K hK => ?_) ?_
        · go_simp
          refine (big_ref _ 5 _ (by omega) (by omega)).mono ?_; rintro e wx ⟨rfl, hb⟩; obtain ⟨hc, hf⟩ := bcell hb; have hz := hb.size; have hz2 := hb.size; (try simp at hz2); (try have hc3 := fun o => hc w1.heap.size o (by omega)); go_simp
          refine hK.out _ _ ?_ (fun hHeld => ?_)
          · (first | exact hHeld | (obtain ⟨a0, a1, a2, a3, a4, a5, al, ab⟩ := hHeld; exact ⟨(hc _ _ al).trans a0, (hc _ _ al).trans a1, (hc _ _ al).trans a2, (hc _ _ al).trans a3, (hc _ _ al).trans a4, (hc _ _ al).trans a5, Nat.lt_of_lt_of_le al hz, ab.trans (hb.mono (Nat.le_of_lt al))⟩) | (obtain ⟨a0, a1, a2, a3, a4, a5, al, ab⟩ := hHeld; exact S9 a0 a1 a2 a3 a4 a5 al ab))
          clear hK K
          try simp only [Act.put, List.setIfInBounds_toArray, List.set_cons_zero, List.set_cons_succ]
          refine take_mk 20 (v := ?vv19) rfl (by kernel_rfl) (by kernel_rfl) (by kernel_rfl) (fun _ _ _ h => h) (Or.inl ⟨by rfl, ?hy19⟩) (by assumption) ?_
          case hy19 => (intro wx hSw; (try dsimp only at hSw); go_simp; try with_reducible rfl)
          try simp only [Act.put, List.setIfInBounds_toArray, List.set_cons_zero, List.set_cons_succ]
          refine take_mk 21 (v := ?vv20) rfl (by kernel_rfl) (by kernel_rfl) (by kernel_rfl) (fun _ _ _ h => h) (Or.inl ⟨by rfl, ?hy20⟩) (by assumption) ?_
          case hy20 => (intro wx hSw; (try dsimp only at hSw); go_simp; try with_reducible rfl)
          try simp only [Act.put, List.setIfInBounds_toArray, List.set_cons_zero, List.set_cons_succ]
          refine take_mk 24 (v := ?vv21) rfl (by kernel_rfl) (by kernel_rfl) (by kernel_rfl) (fun _ _ _ h => h) (Or.inl ⟨by rfl, ?hy21⟩) (by assumption) ?_
          case hy21 => (intro wx hSw; (try dsimp only at hSw); go_simp; try with_reducible rfl)
          try simp only [Act.put, List.setIfInBounds_toArray, List.set_cons_zero, List.set_cons_succ]
          refine take_mk 25 (v := ?vv22) rfl (by kernel_rfl) (by kernel_rfl) (by kernel_rfl) (fun _ _ _ h => h) (Or.inl ⟨by rfl, ?hy22⟩) (by assumption) ?_
          case hy22 => (intro wx hSw; (try dsimp only at hSw); go_simp; try with_reducible rfl)
          try simp only [Act.put, List.setIfInBounds_toArray, List.set_cons_zero, List.set_cons_succ]
          refine wpAnyH_done (by kernel_rfl) ?_ _
          obtain ⟨_, _, _, _, _, _, al, ab⟩ := hHeld
          clear sv sf ss lg le hcv sg se
          go_wp2_with fail
          refine (sealed_any _ _ (enc_size _ _ _ _ _ _ ld)).mono ?_
          rintro e wz ⟨rfl, hbz⟩
          go_wp2
          go_ret2
          exact ⟨by rw [enc_flat]; rfl, ab.trans (hbz.mono (Nat.le_of_lt al))⟩
        exact AllReadyH.nil
      exact AllReadyH.nil
    refine cons_mk rfl (fun K hK => ?_) ?_
    · go_simp
      refine (big_ref _ 5 _ (by omega) (by omega)).mono ?_; rintro e wx ⟨rfl, hb⟩; obtain ⟨hc, hf⟩ := bcell hb; have hz := hb.size; have hz2 := hb.size; (try simp at hz2); go_simp
      refine hK.out _ _ ?_ (fun hHeld => ?_)
      · (first | exact hHeld | (obtain ⟨a0, a1, a2, a3, a4, a5, al, ab⟩ := hHeld; exact ⟨(hc _ _ al).trans a0, (hc _ _ al).trans a1, (hc _ _ al).trans a2, (hc _ _ al).trans a3, (hc _ _ al).trans a4, (hc _ _ al).trans a5, Nat.lt_of_lt_of_le al hz, ab.trans (hb.mono (Nat.le_of_lt al))⟩) | (obtain ⟨a0, a1, a2, a3, a4, a5, al, ab⟩ := hHeld; exact S9 a0 a1 a2 a3 a4 a5 al ab))
      clear hK K
      try simp only [Act.put, List.setIfInBounds_toArray, List.set_cons_zero, List.set_cons_succ]
      refine wpAnyH_ready (rs := [10, 19]) (by kernel_rfl) (by simp) ?_
      refine cons_mk rfl (fun K hK => ?_) ?_
      · go_simp
        refine hK.out _ _ ?_ (fun hHeld => ?_)
        · (first | exact hHeld | (obtain ⟨a0, a1, a2, a3, a4, a5, al, ab⟩ := hHeld; exact ⟨(hc _ _ al).trans a0, (hc _ _ al).trans a1, (hc _ _ al).trans a2, (hc _ _ al).trans a3, (hc _ _ al).trans a4, (hc _ _ al).trans a5, Nat.lt_of_lt_of_le al hz, ab.trans (hb.mono (Nat.le_of_lt al))⟩) | (obtain ⟨a0, a1, a2, a3, a4, a5, al, ab⟩ := hHeld; exact S9 a0 a1 a2 a3 a4 a5 al ab))
        clear hK K
        try simp only [Act.put, List.setIfInBounds_toArray, List.set_cons_zero, List.set_cons_succ]
        refine take_mk 15 (v := ?vv23) rfl (by kernel_rfl) (by kernel_rfl) (by kernel_rfl) (fun _ _ _ h => h) (Or.inl ⟨by rfl, ?hy23⟩) (by assumption) ?_
        case hy23 => (intro wx hSw; (try dsimp only at hSw); go_simp; try with_reducible rfl)
        try simp only [Act.put, List.setIfInBounds_toArray, List.set_cons_zero, List.set_cons_succ]
        refine wpAnyH_ready (rs := [19]) (by kernel_rfl) (by simp) ?_
        refine cons_mk rfl (fun K hK => ?_) ?_
        · go_simp
          refine (big_ref _ 5 _ (by omega) (by omega)).mono ?_; rintro e wx ⟨rfl, hb⟩; obtain ⟨hc, hf⟩ := bcell hb; have hz := hb.size; have hz2 := hb.size; (try simp at hz2); (try have hc3 := fun o => hc w1.heap.size o (by omega)); go_simp
          refine hK.out _ _ ?_ (fun hHeld => ?_)
          · (first | exact hHeld | (obtain ⟨a0, a1, a2, a3, a4, a5, al, ab⟩ := hHeld; exact ⟨(hc _ _ al).trans a0, (hc _ _ al).trans a1, (hc _ _ al).trans a2, (hc _ _ al).trans a3, (hc _ _ al).trans a4, (hc _ _ al).trans a5, Nat.lt_of_lt_of_le al hz, ab.trans (hb.mono (Nat.le_of_lt al))⟩) | (obtain ⟨a0, a1, a2, a3, a4, a5, al, ab⟩ := hHeld; exact S9 a0 a1 a2 a3 a4 a5 al ab))
          clear hK K
          try simp only [Act.put, List.setIfInBounds_toArray, List.set_cons_zero, List.set_cons_succ]
          refine take_mk 20 (v := ?vv24) rfl (by kernel_rfl) (by kernel_rfl) (by kernel_rfl) (fun _ _ _ h => h) (Or.inl ⟨by rfl, ?hy24⟩) (by assumption) ?_
          case hy24 => (intro wx hSw; (try dsimp only at hSw); go_simp; try with_reducible rfl)
          try simp only [Act.put, List.setIfInBounds_toArray, List.set_cons_zero, List.set_cons_succ]
          refine take_mk 21 (v := ?vv25) rfl (by kernel_rfl) (by kernel_rfl) (by kernel_rfl) (fun _ _ _ h => h) (Or.inl ⟨by rfl, ?hy25⟩) (by assumption) ?_
          case hy25 => (intro wx hSw; (try dsimp only at hSw); go_simp; try with_reducible rfl)
          try simp only [Act.put, List.setIfInBounds_toArray, List.set_cons_zero, List.set_cons_succ]
          refine take_mk 24 (v := ?vv26) rfl (by kernel_rfl) (by kernel_rfl) (by kernel_rfl) (fun _ _ _ h => h) (Or.inl ⟨by rfl, ?hy26⟩) (by assumption) ?_
          case hy26 => (intro wx hSw; (try dsimp only at hSw); go_simp; try with_reducible rfl)
          try simp only [Act.put, List.setIfInBounds_toArray, List.set_cons_zero, List.set_cons_succ]
          refine take_mk 25 (v := ?vv27) rfl (by kernel_rfl) (by kernel_rfl) (by kernel_rfl) (fun _ _ _ h => h) (Or.inl ⟨by rfl, ?hy27⟩) (by assumption) ?_
          case hy27 => (intro wx hSw; (try dsimp only at hSw); go_simp; try with_reducible rfl)
          try simp only [Act.put, List.setIfInBounds_toArray, List.set_cons_zero, List.set_cons_succ]
          refine wpAnyH_done (by kernel_rfl) ?_ _
          obtain ⟨_, _, _, _, _, _, al, ab⟩ := hHeld
          clear sv sf ss lg le hcv sg se
          go_wp2_with fail
          refine (sealed_any _ _ (enc_size _ _ _ _ _ _ ld)).mono ?_
          rintro e wz ⟨rfl, hbz⟩
          go_wp2
          go_ret2
          exact ⟨by rw [enc_flat]; rfl, ab.trans (hbz.mono (Nat.le_of_lt al))⟩
        exact AllReadyH.nil
      refine cons_mk rfl (fun K hK => ?_) ?_
      · go_simp
        refine (big_ref _ 5 _ (by omega) (by omega)).mono ?_; rintro e wx ⟨rfl, hb⟩; obtain ⟨hc, hf⟩ := bcell hb; have hz := hb.size; have hz2 := hb.size; (try simp at hz2); (try have hc3 := fun o => hc w1.heap.size o (by omega)); go_simp
        refine hK.out _ _ ?_ (fun hHeld => ?_)
        · (first | exact hHeld | (obtain ⟨a0, a1, a2, a3, a4, a5, al, ab⟩ := hHeld; exact ⟨(hc _ _ al).trans a0, (hc _ _ al).trans a1, (hc _ _ al).trans a2, (hc _ _ al).trans a3, (hc _ _ al).trans a4, (hc _ _ al).trans a5, Nat.lt_of_lt_of_le al hz, ab.trans (hb.mono (Nat.le_of_lt al))⟩) | (obtain ⟨a0, a1, a2, a3, a4, a5, al, ab⟩ := hHeld; exact S9 a0 a1 a2 a3 a4 a5 al ab))
        clear hK K
        try simp only [Act.put, List.setIfInBounds_toArray, List.set_cons_zero, List.set_cons_succ]
        refine wpAnyH_ready (rs := [10]) (by kernel_rfl) (by simp) ?_
        refine cons_mk rfl (fun K hK => ?_) ?_
        · go_simp
          refine hK.out _ _ ?_ (fun hHeld => ?_)
          · (first | exact hHeld | (obtain ⟨a0, a1, a2, a3, a4, a5, al, ab⟩ := hHeld; exact ⟨(hc _ _ al).trans a0, (hc _ _ al).trans a1, (hc _ _ al).trans a2, (hc _ _ al).trans a3, (hc _ _ al).trans a4, (hc _ _ al).trans a5, Nat.lt_of_lt_of_le al hz, ab.trans (hb.mono (Nat.le_of_lt al))⟩) | (obtain ⟨a0, a1, a2, a3, a4, a5, al, ab⟩ := hHeld; exact S9 a0 a1 a2 a3 a4 a5 al ab))
          clear hK K
          try simp only [Act.put, List.setIfInBounds_toArray, List.set_cons_zero, List.set_cons_succ]
          refine take_mk 15 (v := ?vv28) rfl (by kernel_rfl) (by kernel_rfl) (by kernel_rfl) (fun _ _ _ h => h) (Or.inl ⟨by rfl, ?hy28⟩) (by assumption) ?_
          case hy28 => (intro wx hSw; (try dsimp only at hSw); go_simp; try with_reducible rfl)
          try simp only [Act.put, List.setIfInBounds_toArray, List.set_cons_zero, List.set_cons_succ]
          refine take_mk 20 (v := ?vv29) rfl (by kernel_rfl) (by kernel_rfl) (by kernel_rfl) (fun _ _ _ h => h) (Or.inl ⟨by rfl, ?hy29⟩) (by assumption) ?_
          case hy29 => (intro wx hSw; (try dsimp only at hSw); go_simp; try with_reducible rfl)
          try simp only [Act.put, List.setIfInBounds_toArray, List.set_cons_zero, List.set_cons_succ]
          refine take_mk 21 (v := ?vv30) rfl (by kernel_rfl) (by kernel_rfl) (by kernel_rfl) (fun _ _ _ h => h) (Or.inl ⟨by rfl, ?hy30⟩) (by assumption) ?_
          case hy30 => (intro wx hSw; (try dsimp only at hSw); go_simp; try with_reducible rfl)
          try simp only [Act.put, List.setIfInBounds_toArray, List.set_cons_zero, List.set_cons_succ]
          refine take_mk 24 (v := ?vv31) rfl (by kernel_rfl) (by kernel_rfl) (by kernel_rfl) (fun _ _ _ h => h) (Or.inl ⟨by rfl, ?hy31⟩) (by assumption) ?_
          case hy31 => (intro wx hSw; (try dsimp only at hSw); go_simp; try with_reducible rfl)
          try simp only [Act.put, List.setIfInBounds_toArray, List.set_cons_zero, List.set_cons_succ]
          refine take_mk 25 (v := ?vv32) rfl (by kernel_rfl) (by kernel_rfl) (by kernel_rfl) (fun _ _ _ h => h) (Or.inl ⟨by rfl, ?hy32⟩) (by assumption) ?_
          case hy32 => (intro wx hSw; (try dsimp only at hSw); go_simp; try with_reducible rfl)
          try simp only [Act.put, List.setIfInBounds_toArray, List.set_cons_zero, List.set_cons_succ]
          refine wpAnyH_done (by kernel_rfl) ?_ _
          obtain ⟨_, _, _, _, _, _, al, ab⟩ := hHeld
          clear sv sf ss lg le hcv sg se
          go_wp2_with fail
          refine (sealed_any _ _ (enc_size _ _ _ _ _ _ ld)).mono ?_
          rintro e wz ⟨rfl, hbz⟩
          go_wp2
          go_ret2
          exact ⟨by rw [enc_flat]; rfl, ab.trans (hbz.mono (Nat.le_of_lt al))⟩
        exact AllReadyH.nil
      exact AllReadyH.nil
    exact AllReadyH.nil
  refine cons_mk rfl (fun K hK => ?_) ?_
  · go_simp
    refine (big_ref _ 5 _ (by omega) (by omega)).mono ?_; rintro e wx ⟨rfl, hb⟩; obtain ⟨hc, hf⟩ := bcell hb; have hz := hb.size; have hz2 := hb.size; (try simp at hz2); go_simp
    refine hK.out _ _ ?_ (fun hHeld => ?_)
    · (first | exact hHeld | (obtain ⟨a0, a1, a2, a3, a4, a5, al, ab⟩ := hHeld; exact ⟨(hc _ _ al).trans a0, (hc _ _ al).trans a1, (hc _ _ al).trans a2, (hc _ _ al).trans a3, (hc _ _ al).trans a4, (hc _ _ al).trans a5, Nat.lt_of_lt_of_le al hz, ab.trans (hb.mono (Nat.le_of_lt al))⟩) | (obtain ⟨a0, a1, a2, a3, a4, a5, al, ab⟩ := hHeld; exact S9 a0 a1 a2 a3 a4 a5 al ab))
    clear hK K
    try simp only [Act.put, List.setIfInBounds_toArray, List.set_cons_zero, List.set_cons_succ]
    refine wpAnyH_ready (rs := [9, 19]) (by kernel_rfl) (by simp) ?_
    refine cons_mk rfl (fun K hK => ?_) ?_
    · go_simp
      refine hK.out _ _ ?_ (fun hHeld => ?_)
      · (first | exact hHeld | (obtain ⟨a0, a1, a2, a3, a4, a5, al, ab⟩ := hHeld; exact ⟨(hc _ _ al).trans a0, (hc _ _ al).trans a1, (hc _ _ al).trans a2, (hc _ _ al).trans a3, (hc _ _ al).trans a4, (hc _ _ al).trans a5, Nat.lt_of_lt_of_le al hz, ab.trans (hb.mono (Nat.le_of_lt al))⟩) | (obtain ⟨a0, a1, a2, a3, a4, a5, al, ab⟩ := hHeld; exact S9 a0 a1 a2 a3 a4 a5 al ab))
      clear hK K
      try simp only [Act.put, List.setIfInBounds_toArray, List.set_cons_zero, List.set_cons_succ]
      refine wpAnyH_ready (rs := [10, 19]) (by kernel_rfl) (by simp) ?_
      refine cons_mk rfl (fun K hK => ?_) ?_
      · go_simp
        refine hK.out _ _ ?_ (fun hHeld => ?_)
        · (first | exact hHeld | (obtain ⟨a0, a1, a2, a3, a4, a5, al, ab⟩ := hHeld; exact ⟨(hc _ _ al).trans a0, (hc _ _ al).trans a1, (hc _ _ al).trans a2, (hc _ _ al).trans a3, (hc _ _ al).trans a4, (hc _ _ al).trans a5, Nat.lt_of_lt_of_le al hz, ab.trans (hb.mono (Nat.le_of_lt al))⟩) | (obtain ⟨a0, a1, a2, a3, a4, a5, al, ab⟩ := hHeld; exact S9 a0 a1 a2 a3 a4 a5 al ab))
        clear hK K
        try simp only [Act.put, List.setIfInBounds_toArray, List.set_cons_zero, List.set_cons_succ]
        refine take_mk 15 (v := ?vv33) rfl (by kernel_rfl) (by kernel_rfl) (by kernel_rfl) (fun _ _ _ h => h) (Or.inl ⟨by rfl, ?hy33⟩) (by assumption) ?_
        case hy33 => (intro wx hSw; (try dsimp only at hSw); go_simp; try with_reducible rfl)
        try simp only [Act.put, List.setIfInBounds_toArray, List.set_cons_zero, List.set_cons_succ]
        refine wpAnyH_ready (rs := [19]) (by kernel_rfl) (by simp) ?_
        refine cons_mk rfl (fun K hK => ?_) ?_
        · go_simp
          refine (big_ref _ 5 _ (by omega) (by omega)).mono ?_; rintro e wx ⟨rfl, hb⟩; obtain ⟨hc, hf⟩ := bcell hb; have hz := hb.size; have hz2 := hb.size; (try simp at hz2); (try have hc3 := fun o => hc w1.heap.size o (by omega)); go_simp
          refine hK.out _ _ ?_ (fun hHeld => ?_)
          · (first | exact hHeld | (obtain ⟨a0, a1, a2, a3, a4, a5, al, ab⟩ := hHeld; exact ⟨(hc _ _ al).trans a0, (hc _ _ al).trans a1, (hc _ _ al).trans a2, (hc _ _ al).trans a3, (hc _ _ al).trans a4, (hc _ _ al).trans a5, Nat.lt_of_lt_of_le al hz, ab.trans (hb.mono (Nat.le_of_lt al))⟩) | (obtain ⟨a0, a1, a2, a3, a4, a5, al, ab⟩ := hHeld; exact S9 a0 a1 a2 a3 a4 a5 al ab))
          clear hK K
          try simp only [Act.put, List.setIfInBounds_toArray, List.set_cons_zero, List.set_cons_succ]
          refine take_mk 20 (v := ?vv34) rfl (by kernel_rfl) (by kernel_rfl) (by kernel_rfl) (fun _ _ _ h => h) (Or.inl ⟨by rfl, ?hy34⟩) (by assumption) ?_
          case hy34 => (intro wx hSw; (try dsimp only at hSw); go_simp; try with_reducible rfl)
          try simp only [Act.put, List.setIfInBounds_toArray, List.set_cons_zero, List.set_cons_succ]
          refine take_mk 21 (v := ?vv35) rfl (by kernel_rfl) (by kernel_rfl) (by kernel_rfl) (fun _ _ _ h => h) (Or.inl ⟨by rfl, ?hy35⟩) (by assumption) ?_
          case hy35 => (intro wx hSw; (try dsimp only at hSw); go_simp; try with_reducible rfl)
          try simp only [Act.put, List.setIfInBounds_toArray, List.set_cons_zero, List.set_cons_succ]
          refine take_mk 24 (v := ?vv36) rfl (by kernel_rfl) (by kernel_rfl) (by kernel_rfl) (fun _ _ _ h => h) (Or.inl ⟨by rfl, ?hy36⟩) (by assumption) ?_
          case hy36 => (intro wx hSw; (try dsimp only at hSw); go_simp; try with_reducible rfl)
          try simp only [Act.put, List.setIfInBounds_toArray, List.set_cons_zero, List.set_cons_succ]
          refine take_mk 25 (v := ?vv37) rfl (by kernel_rfl) (by kernel_rfl) (by kernel_rfl) (fun _ _ _ h => h) (Or.inl ⟨by rfl, ?hy37⟩) (by assumption) ?_
          case hy37 => (intro wx hSw; (try dsimp only at hSw); go_simp; try with_reducible rfl)
          try simp only [Act.put, List.setIfInBounds_toArray, List.set_cons_zero, List.set_cons_succ]
          refine wpAnyH_done (by kernel_rfl) ?_ _
          obtain ⟨_, _, _, _, _, _, al, ab⟩ := hHeld
          clear sv sf ss lg le hcv sg se
          go_wp2_with fail
          refine (sealed_any _ _ (enc_size _ _ _ _ _ _ ld)).mono ?_
          rintro e wz ⟨rfl, hbz⟩
          go_wp2
          go_ret2
          exact ⟨by rw [enc_flat]; rfl, ab.trans (hbz.mono (Nat.le_of_lt al))⟩
        exact AllReadyH.nil
      refine cons_mk rfl (fun K hK => ?_) ?_
      · go_simp
        refine (big_ref _ 5 _ (by omega) (by omega)).mono ?_; rintro e wx ⟨rfl, hb⟩; obtain ⟨hc, hf⟩ := bcell hb; have hz := hb.size; have hz2 := hb.size; (try simp at hz2); (try have hc3 := fun o => hc w1.heap.size o (by omega)); go_simp
        refine hK.out _ _ ?_ (fun hHeld => ?_)
        · (first | exact hHeld | (obtain ⟨a0, a1, a2, a3, a4, a5, al, ab⟩ := hHeld; exact ⟨(hc _ _ al).trans a0, (hc _ _ al).trans a1, (hc _ _ al).trans a2, (hc _ _ al).trans a3, (hc _ _ al).trans a4, (hc _ _ al).trans a5, Nat.lt_of_lt_of_le al hz, ab.trans (hb.mono (Nat.le_of_lt al))⟩) | (obtain ⟨a0, a1, a2, a3, a4, a5, al, ab⟩ := hHeld; exact S9 a0 a1 a2 a3 a4 a5 al ab))
        clear hK K
        try simp only [Act.put, List.setIfInBounds_toArray, List.set_cons_zero, List.set_cons_succ]
        refine wpAnyH_ready (rs := [10]) (by kernel_rfl) (by simp) ?_
        refine cons_mk rfl (fun K hK => ?_) ?_
        · go_simp
          refine hK.out _ _ ?_ (fun hHeld => ?_)
          · (first | exact hHeld | (obtain ⟨a0, a1, a2, a3, a4, a5, al, ab⟩ := hHeld; exact ⟨(hc _ _ al).trans a0, (hc _ _ al).trans a1, (hc _ _ al).trans a2, (hc _ _ al).trans a3, (hc _ _ al).trans a4, (hc _ _ al).trans a5, Nat.lt_of_lt_of_le al hz, ab.trans (hb.mono (Nat.le_of_lt al))⟩) | (obtain ⟨a0, a1, a2, a3, a4, a5, al, ab⟩ := hHeld; exact S9 a0 a1 a2 a3 a4 a5 al ab))
          clear hK K
          try simp only [Act.put, List.setIfInBounds_toArray, List.set_cons_zero, List.set_cons_succ]
          refine take_mk 15 (v := ?vv38) rfl (by kernel_rfl) (by kernel_rfl) (by kernel_rfl) (fun _ _ _ h => h) (Or.inl ⟨by rfl, ?hy38⟩) (by assumption) ?_
          case hy38 => (intro wx hSw; (try dsimp only at hSw); go_simp; try with_reducible rfl)
          try simp only [Act.put, List.setIfInBounds_toArray, List.set_cons_zero, List.set_cons_succ]
          refine take_mk 20 (v := ?vv39) rfl (by kernel_rfl) (by kernel_rfl) (by kernel_rfl) (fun _ _ _ h => h) (Or.inl ⟨by rfl, ?hy39⟩) (by assumption) ?_
          case hy39 => (intro wx hSw; (try dsimp only at hSw); go_simp; try with_reducible rfl)
          try simp only [Act.put, List.setIfInBounds_toArray, List.set_cons_zero, List.set_cons_succ]
          refine take_mk 21 (v := ?vv40) rfl (by kernel_rfl) (by kernel_rfl) (by kernel_rfl) (fun _ _ _ h => h) (Or.inl ⟨by rfl, ?hy40⟩) (by assumption) ?_
          case hy40 => (intro wx hSw; (try dsimp only at hSw); go_simp; try with_reducible rfl)
          try simp only [Act.put, List.setIfInBounds_toArray, List.set_cons_zero, List.set_cons_succ]
          refine take_mk 24 (v := ?vv41) rfl (by kernel_rfl) (by kernel_rfl) (by kernel_rfl) (fun _ _ _ h => h) (Or.inl ⟨by rfl, ?hy41⟩) (by assumption) ?_
          case hy41 => (intro wx hSw; (try dsimp only at hSw); go_simp; try with_reducible rfl)
          try simp only [Act.put, List.setIfInBounds_toArray, List.set_cons_zero, List.set_cons_succ]
          refine take_mk 25 (v := ?vv42) rfl (by kernel_rfl) (by kernel_rfl) (by kernel_rfl) (fun _ _ _ h => h) (Or.inl ⟨by rfl, ?hy42⟩) (by assumption) ?_
          case hy42 => (intro wx hSw; (try dsimp only at hSw); go_simp; try with_reducible rfl)
          try simp only [Act.put, List.setIfInBounds_toArray, List.set_cons_zero, List.set_cons_succ]
          refine wpAnyH_done (by kernel_rfl) ?_ _
          obtain ⟨_, _, _, _, _, _, al, ab⟩ := hHeld
          clear sv sf ss lg le hcv sg se
          go_wp2_with fail
          refine (sealed_any _ _ (enc_size _ _ _ _ _ _ ld)).mono ?_
          rintro e wz ⟨rfl, hbz⟩
          go_wp2
          go_ret2
          exact ⟨by rw [enc_flat]; rfl, ab.trans (hbz.mono (Nat.le_of_lt al))⟩
        exact AllReadyH.nil
      exact AllReadyH.nil
    refine cons_mk rfl (fun K hK => ?_) ?_
    · go_simp
      refine (big_ref _ 5 _ (by omega) (by omega)).mono ?_; rintro e wx ⟨rfl, hb⟩; obtain ⟨hc, hf⟩ := bcell hb; have hz := hb.size; have hz2 := hb.size; (try simp at hz2); (try have hc3 := fun o => hc w1.heap.size o (by omega)); go_simp
      refine hK.out _ _ ?_ (fun hHeld => ?_)
      · (first | exact hHeld | (obtain ⟨a0, a1, a2, a3, a4, a5, al, ab⟩ := hHeld; exact ⟨(hc _ _ al).trans a0, (hc _ _ al).trans a1, (hc _ _ al).trans a2, (hc _ _ al).trans a3, (hc _ _ al).trans a4, (hc _ _ al).trans a5, Nat.lt_of_lt_of_le al hz, ab.trans (hb.mono (Nat.le_of_lt al))⟩) | (obtain ⟨a0, a1, a2, a3, a4, a5, al, ab⟩ := hHeld; exact S9 a0 a1 a2 a3 a4 a5 al ab))
      clear hK K
      try simp only [Act.put, List.setIfInBounds_toArray, List.set_cons_zero, List.set_cons_succ]
      refine wpAnyH_ready (rs := [9]) (by kernel_rfl) (by simp) ?_
      refine cons_mk rfl (fun K hK => ?_) ?_
      · go_simp
        refine hK.out _ _ ?_ (fun hHeld => ?_)
        · (first | exact hHeld | (obtain ⟨a0, a1, a2, a3, a4, a5, al, ab⟩ := hHeld; exact ⟨(hc _ _ al).trans a0, (hc _ _ al).trans a1, (hc _ _ al).trans a2, (hc _ _ al).trans a3, (hc _ _ al).trans a4, (hc _ _ al).trans a5, Nat.lt_of_lt_of_le al hz, ab.trans (hb.mono (Nat.le_of_lt al))⟩) | (obtain ⟨a0, a1, a2, a3, a4, a5, al, ab⟩ := hHeld; exact S9 a0 a1 a2 a3 a4 a5 al ab))
        clear hK K
        try simp only [Act.put, List.setIfInBounds_toArray, List.set_cons_zero, List.set_cons_succ]
        refine wpAnyH_ready (rs := [10]) (by kernel_rfl) (by simp) ?_
        refine cons_mk rfl (fun K hK => ?_) ?_
        · go_simp
          refine hK.out _ _ ?_ (fun hHeld => ?_)
          · (first | exact hHeld | (obtain ⟨a0, a1, a2, a3, a4, a5, al, ab⟩ := hHeld; exact ⟨(hc _ _ al).trans a0, (hc _ _ al).trans a1, (hc _ _ al).trans a2, (hc _ _ al).trans a3, (hc _ _ al).trans a4, (hc _ _ al).trans a5, Nat.lt_of_lt_of_le al hz, ab.trans (hb.mono (Nat.le_of_lt al))⟩) | (obtain ⟨a0, a1, a2, a3, a4, a5, al, ab⟩ := hHeld; exact S9 a0 a1 a2 a3 a4 a5 al ab))
          clear hK K
          try simp only [Act.put, List.setIfInBounds_toArray, List.set_cons_zero, List.set_cons_succ]
          refine take_mk 15 (v := ?vv43) rfl (by kernel_rfl) (by kernel_rfl) (by kernel_rfl) (fun _ _ _ h => h) (Or.inl ⟨by rfl, ?hy43⟩) (by assumption) ?_
          case hy43 => (intro wx hSw; (try dsimp only at hSw); go_simp; try with_reducible rfl)
          try simp only [Act.put, List.setIfInBounds_toArray, List.set_cons_zero, List.set_cons_succ]
          refine take_mk 20 (v := ?vv44) rfl (by kernel_rfl) (by kernel_rfl) (by kernel_rfl) (fun _ _ _ h => h) (Or.inl ⟨by rfl, ?hy44⟩) (by assumption) ?_
          case hy44 => (intro wx hSw; (try dsimp only at hSw); go_simp; try with_reducible rfl)
          try simp only [Act.put, List.setIfInBounds_toArray, List.set_cons_zero, List.set_cons_succ]
          refine take_mk 21 (v := ?vv45) rfl (by kernel_rfl) (by kernel_rfl) (by kernel_rfl) (fun _ _ _ h => h) (Or.inl ⟨by rfl, ?hy45⟩) (by assumption) ?_
          case hy45 => (intro wx hSw; (try dsimp only at hSw); go_simp; try with_reducible rfl)
          try simp only [Act.put, List.setIfInBounds_toArray, List.set_cons_zero, List.set_cons_succ]
          refine take_mk 24 (v := ?vv46) rfl (by kernel_rfl) (by kernel_rfl) (by kernel_rfl) (fun _ _ _ h => h) (Or.inl ⟨by rfl, ?hy46⟩) (by assumption) ?_
          case hy46 => (intro wx hSw; (try dsimp only at hSw); go_simp; try with_reducible rfl)
          try simp only [Act.put, List.setIfInBounds_toArray, List.set_cons_zero, List.set_cons_succ]
          refine take_mk 25 (v := ?vv47) rfl (by kernel_rfl) (by kernel_rfl) (by kernel_rfl) (fun _ _ _ h => h) (Or.inl ⟨by rfl, ?hy47⟩) (by assumption) ?_
          case hy47 => (intro wx hSw; (try dsimp only at hSw); go_simp; try with_reducible rfl)
          try simp only [Act.put, List.setIfInBounds_toArray, List.set_cons_zero, List.set_cons_succ]
          refine wpAnyH_done (by kernel_rfl) ?_ _
          obtain ⟨_, _, _, _, _, _, al, ab⟩ := hHeld
          clear sv sf ss lg le hcv sg se
          go_wp2_with fail
          refine (sealed_any _ _ (enc_size _ _ _ _ _ _ ld)).mono ?_
          rintro e wz ⟨rfl, hbz⟩
          go_wp2
          go_ret2
          exact ⟨by rw [enc_flat]; rfl, ab.trans (hbz.mono (Nat.le_of_lt al))⟩
        exact AllReadyH.nil
      exact AllReadyH.nil
    exact AllReadyH.nil
  exact AllReadyH.nil
end Go.Proofs.Ytegekmdechcikaa
