/- Decode of the program. -/
import Derived.Test.YtgeopgibjmhehaaEncRef
import Derived.Test.YtgeopgibjmhehaaDecPlain
import Derived.Deep.DeepCutAuto
namespace Go.Proofs.Ytgeopgibjmhehaa
open Go.RowKit Go.Sort
attribute [local go_sem ↓] Go.wp_at_zero Go.wp_at_succ

theorem results_cell_tmp {P : Program} {fn : Func} {p q : Tmp} {ty : TypeId} (h : fn.results = #[.cell p ty, .tmp q]) (tmps : Array Value) (w : World) (g : Nat) (t : TypeId) (cs : Array Value) (fr : Nat × Nat) (d : TypeDesc)
    (hp : tmps.getD p undef = .pointer (some ⟨g, 0, none⟩)) (hg : w.heap[g]? = some (.cells cs t fr))
    (hu : P.underlying ty = some d) (hd : (match d with | .struct _ | .array _ _ => true | _ => false) = true) (hi : (P.info? ty).map (·.size) = some cs.size) :
    (results fn tmps).run P w = .ok (.tuple #[.agg cs, tmps.getD q undef]) w := by
  have hp' : tmps[p]?.getD undef = .pointer (some ⟨g, 0, none⟩) := by simpa using hp
  simp [results, h, hp', asAddr, run_loadVar_row w g t ty cs fr d hg hu hd hi]

theorem zero_piece (w : World) : Piece (w.alloc (.cells #[.int .i64 0, .int .i64 0, .int .i64 0, .int .i64 0, .int .i64 0, .string { data := #[] }] 35)) w.heap.size 0 0 0 0 0 { data := #[] } 35 := piece_new w 0 0 0 0 0 { data := #[] } _
theorem zero_piece_d (w : World) : Piece (w.alloc (.cells #[.int .i64 0, .int .i64 0, .int .i64 0, .int .i64 0, .int .i64 0, .string { data := #[] }] 35)).drew w.heap.size 0 0 0 0 0 { data := #[] } 35 := piece_new w 0 0 0 0 0 { data := #[] } _
theorem keep_alloc {w W : World} {o : Obj} {t : TypeId} (al : w.heap.size < W.heap.size) (ab : Below w.heap.size w W) (ap : Piece W w.heap.size 0 0 0 0 0 { data := #[] } t) :
    w.heap.size < (W.alloc o).heap.size ∧ Below w.heap.size w (W.alloc o) ∧ Piece (W.alloc o) w.heap.size 0 0 0 0 0 { data := #[] } t := ⟨by simp; omega, ab.alloc (Nat.le_of_lt al) _, ap.alloc _⟩
theorem keep_grown {w W W' : World} {g : Nat} {t : TypeId} (al : w.heap.size < W.heap.size) (ab : Below w.heap.size w W) (ap : Piece W w.heap.size 0 0 0 0 0 { data := #[] } t) (h : W.grownBy W' (some g)) (hg : w.heap.size < g) :
    w.heap.size < W'.heap.size ∧ Below w.heap.size w W' ∧ Piece W' w.heap.size 0 0 0 0 0 { data := #[] } t :=
  ⟨Nat.lt_of_lt_of_le al h.size, below_grown ab h (Nat.le_of_lt al) (Nat.le_of_lt hg), ap.grown h (Nat.ne_of_lt hg)⟩
/-- A piece is stored into a block of a piece. -/
theorem wp_store_piece {P : Program} {o : Oper} {a : Act} {w : World} {K : Act → World → Prop} {Q : Exit → Act → World → Prop} (ty : TypeId) (x y : Operand) (ho : o.op = .store ty x y)
    (b : Nat) (v f s g ve : Int) (d : ByteArray) (hx : a.eval x = .pointer (some ⟨b, 0, none⟩)) (hy : a.eval y = .agg #[.int .i64 v, .int .i64 f, .int .i64 s, .int .i64 g, .int .i64 ve, .string d])
    {v' f' s' g' ve' : Int} {d' : ByteArray} {t : TypeId} (hg : Piece w b v' f' s' g' ve' d' t) (hi : (P.info? ty).map (·.size) = some 6)
    (h : ∀ w', Piece w' b v f s g ve d t → w.grownBy w' (some b) → K (a.put o.dst undef) w') : o.wp P a w K Q :=
  wp_store_row ty x y ho b _ hx hy t _ hg hi rfl (piece_one _ _ _ _ _ _)
    (h _ (setRow_heap w b _ _ _ _ hg) ⟨rfl, rfl, rfl, by simp [World.setRow], fun k _ hne => setRow_other w b k _ (by intro e; exact hne (by rw [e]))⟩)

set_option maxHeartbeats 1000000 in
theorem dec_prog_len (s : ByteArray) (w : World) (_hs : s.size ≤ maxLen) (h36 : s.size ≠ 36) :
    Calls Try.prog 31 #[.string s] w fun e w' => e = .returned (.tuple #[.agg zeroCells, .int .i64 101]) ∧ Below w.heap.size w w' := by
  have hne : ((s.size : Int) != 36) = true := by rw [bne_iff_ne]; omega
  go_enter Try.func31, Try.ntmps31
  go_wp2
  refine bodyPost_ret (results_cell_tmp Try.results31 _ _ w.heap.size _ _ _ _ rfl (zero_piece w) Try.underlying35 rfl piece_size) rfl ⟨rfl, (Below.refl _ _).alloc (Nat.le_refl _) _⟩

set_option maxHeartbeats 2000000 in
theorem dec_prog_blank (s : ByteArray) (w : World) (h36 : s.size = 36) (hb : s.data.toList = zeros 36) :
    Calls Try.prog 31 #[.string s] w fun e w' => e = .returned (.tuple #[.agg zeroCells, .int .i64 102]) ∧ Below w.heap.size w w' := by
  have hne : ((s.size : Int) != 36) = false := by rw [bne_eq_false_iff_eq]; omega
  have hl36 : s.data.toList.length = 36 := by simpa using h36
  have HL := hid hl36
  have HB := hid hb
  clear hl36 hb
  have hsz : (36 : Int) ≤ s.size := by omega
  go_enter Try.func31, Try.ntmps31
  go_wp2
  go_loop [4, 15] (fun b i => ∃ (k : Nat), k ≤ 36 ∧ i = .int .i64 k ∧ b = .bool true) (fun _ i => 36 - (intOf i).toNat)
  case atStart => exact ⟨0, Nat.zero_le _, rfl, rfl⟩
  case round =>
    obtain ⟨k, hk, rfl, rfl⟩ := hrel
    by_cases hlt : k < 36
    · have hks : k < s.size := by omega
      have hc : ((s[k].toNat : Int) == 0) = true := zeros_get s HB.out k hks
      go_wp2
      go_round
      case rel => exact ⟨k + 1, by omega, by go_num, rfl⟩
      case measure => (simp [intOf]; try omega)
    · obtain rfl : k = 36 := by omega
      go_wp2
      refine bodyPost_ret (results_cell_tmp Try.results31 _ _ w.heap.size _ _ _ _ rfl (zero_piece w) Try.underlying35 rfl piece_size) rfl ⟨rfl, (Below.refl _ _).alloc (Nat.le_refl _) _⟩

set_option maxRecDepth 100000 in
set_option maxHeartbeats 4000000 in
theorem dec_prog_rest (s : ByteArray) (w : World) (h36 : s.size = 36) (hb : s.data.toList ≠ zeros 36) :
    Calls Try.prog 31 #[.string s] w fun e w' => e = .returned (.tuple #[.agg (decCells s.data.toList), .int .i64 (errOf s.data.toList)]) ∧ Below w.heap.size w w' := by
  have hne : ((s.size : Int) != 36) = false := by rw [bne_eq_false_iff_eq]; omega
  have hl36 : s.data.toList.length = 36 := by simpa using h36
  have HL := hid hl36
  have HB := hid hb
  clear hl36 hb
  have hsz : (36 : Int) ≤ s.size := by omega
  go_enter Try.func31, Try.ntmps31
  go_wp2
  have hp1 := zero_piece w
  have hb1 : Below w.heap.size w (w.alloc (.cells #[.int .i64 0, .int .i64 0, .int .i64 0, .int .i64 0, .int .i64 0, .string { data := #[] }] 35)) := (Below.refl _ _).alloc (Nat.le_refl _) _
  generalize (w.alloc (.cells #[.int .i64 0, .int .i64 0, .int .i64 0, .int .i64 0, .int .i64 0, .string { data := #[] }] 35)) = w1 at hp1 hb1 ⊢
  go_loop [4, 15] (fun b i => ∃ (k : Nat) (z : Bool), k ≤ 36 ∧ i = .int .i64 k ∧ b = .bool z ∧ Hid (z = allZero (s.data.toList.take k))) (fun _ i => 36 - (intOf i).toNat)
  case atStart => exact ⟨0, true, Nat.zero_le _, rfl, rfl, rfl⟩
  case round =>
    obtain ⟨k, z, hk, rfl, rfl, hz⟩ := hrel
    by_cases hlt : k < 36
    · have hks : k < s.size := by omega
      have hn := hid (allZero_snoc s.data.toList k (by simpa using hks))
      cases z
      · go_wp2
        go_round
        case rel => exact ⟨k + 1, false, by omega, by go_num, rfl, by show _ = _; rw [hn.out, ← hz.out]; rfl⟩
        case measure => (simp [intOf]; try omega)
      · go_wp2
        go_round
        case rel => exact ⟨k + 1, _, by omega, by go_num, rfl, by show _ = _; rw [hn.out, ← hz.out, byte_zero]; rfl⟩
        case measure => (simp [intOf]; try omega)
    · obtain rfl : k = 36 := by omega
      have hzf : z = false := by
        rw [hz.out, List.take_of_length_le (by rw [HL.out]; omega)]
        cases h : allZero s.data.toList
        · rfl
        · exact absurd ((allZero_zeros _ HL.out).1 h) HB.out
      subst hzf
      have hfit : (36 : Nat) ≤ s.size := by omega
      have hsn : ∀ W, Calls Try.prog 36 #[.string s, .int .i64 32, .int .i64 4] W fun e w' => e = .returned (.int .i64 (num ((s.data.toList.drop 32).take 4))) ∧ Below W.heap.size W w' := fun W => number_any s 32 4 W (by omega) (by omega) (by omega)
      have hss : ∀ W, Calls Try.prog 15 #[.string (s.extract 0 32)] W fun e w' => e = .returned (u32 (crc (s.data.toList.take 32))) ∧ Below W.heap.size W w' := by
        intro W
        refine (sum_prog (s.extract 0 32) W (by unfold maxLen; simp; omega)).mono ?_
        rintro e w' ⟨rfl, rfl⟩
        exact ⟨by rw [extract_toList]; rfl, Below.refl _ _⟩
      have HSN := hid hsn
      have HSS := hid hss
      clear hsn hss
      have hcr := u32_range (crc (s.data.toList.take 32))
      go_wp2_with fail
      refine wp_region_quiet_below (by kernel_rfl) (by kernel_rfl) ?_
      repeat (go_big_quiet_step ((first | (go_at_call 36; exact Calls.regrown_of (HSN.out _)) | (go_at_call 15; exact Calls.regrown_of (HSS.out _)))))
      refine wpQuiet_nil ?_
      rintro _ ⟨p, rfl⟩
      have hb2 : Below w.heap.size w (grow (redrawn w1 p.d) p.os) := hb1.trans ((below_regrown w1 p.d p.os).mono hb1.size)
      have hp2 := hp1.below (below_regrown w1 p.d p.os) hp1.lt
      generalize grow (redrawn w1 p.d) p.os = w2 at hb2 hp2 ⊢
      by_cases h3 : sumB s.data.toList = true
      · have hs3 : (num (List.take 4 (List.drop 32 s.data.toList)) != ((crc (List.take 32 s.data.toList)).toNat : Int)) = false := by rw [sum_num _ _ h3]; rfl
        have hlt2 := hp2.lt
        have i1 : ((s[1].toNat : Int)) = fVol s.data.toList := by unfold fVol; rw [getD_byte s 1 (by omega)]
        have i2 : ((s[2].toNat : Int)) = fFrag s.data.toList := by unfold fFrag; rw [getD_byte s 2 (by omega)]
        have i3 : ((s[3].toNat : Int)) = fStripe s.data.toList := by unfold fStripe; rw [getD_byte s 3 (by omega)]
        have w1' : IntKind.i64.wrap (s[1].toNat : Int) = fVol s.data.toList := by rw [← i1]; have := s[1].toNat_lt; exact IntWalk.i64_in _ (by omega)
        have w2' : IntKind.i64.wrap (s[2].toNat : Int) = fFrag s.data.toList := by rw [← i2]; have := s[2].toNat_lt; exact IntWalk.i64_in _ (by omega)
        have w3' : IntKind.i64.wrap (s[3].toNat : Int) = fStripe s.data.toList := by rw [← i3]; have := s[3].toNat_lt; exact IntWalk.i64_in _ (by omega)
        have wd' : s.extract 16 32 = (⟨(fData s.data.toList).toArray⟩ : ByteArray) := by
          apply ByteArray.ext
          apply Array.ext'
          rw [extract_toList]; rfl
        have W1 := hid w1'
        have W2 := hid w2'
        have W3 := hid w3'
        have WD := hid wd'
        clear i1 i2 i3 w1' w2' w3' wd'
        have x1 : (s[1].toNat : Int) < 256 := by have := s[1].toNat_lt; omega
        have x2 : (s[2].toNat : Int) < 256 := by have := s[2].toNat_lt; omega
        have x3 : (s[3].toNat : Int) < 256 := by have := s[3].toNat_lt; omega
        have hn4 : ∀ W, Calls Try.prog 36 #[.string s, .int .i64 4, .int .i64 5] W fun e w' => e = .returned (.int .i64 (fGen s.data.toList)) ∧ Below W.heap.size W w' := fun W => number_any s 4 5 W (by omega) (by omega) (by omega)
        have hn9 : ∀ W, Calls Try.prog 36 #[.string s, .int .i64 9, .int .i64 5] W fun e w' => e = .returned (.int .i64 (fVer s.data.toList)) ∧ Below W.heap.size W w' := fun W => number_any s 9 5 W (by omega) (by omega) (by omega)
        have HN4 := hid hn4
        have HN9 := hid hn9
        clear hn4 hn9
        have c13 : (16 : Int) ≤ 32 := by omega
        go_upto_region 13 with (fail)
        go_cut [6] (fun s6 wx => ∃ b : Nat, s6 = .pointer (some ⟨b, 0, none⟩) ∧ w.heap.size < b ∧ Piece wx b (fVol s.data.toList) (fFrag s.data.toList) (fStripe s.data.toList) (fGen s.data.toList) (fVer s.data.toList) ⟨(fData s.data.toList).toArray⟩ 35 ∧ Piece wx w.heap.size 0 0 0 0 0 { data := #[] } 35 ∧ Below w.heap.size w wx)
        case first =>
          refine wp_region_held_drew (S := (fun w' => w.heap.size < w'.heap.size ∧ Below w.heap.size w w' ∧ Piece w' w.heap.size 0 0 0 0 0 { data := #[] } 35)) (by kernel_rfl) ?_ (fun hHeld => ?_)
          · exact ⟨hlt2, hb2.drew, hp2⟩
          refine take_mk 0 (v := ?vv1) rfl (by kernel_rfl) (by kernel_rfl) (by kernel_rfl) (fun _ _ _ h => h) (Or.inl ⟨by rfl, ?hy1⟩) (by assumption) ?_
          case hy1 => (intro wx hSw; (try dsimp only at hSw); go_simp; try with_reducible rfl)
          try simp only [Act.put, List.setIfInBounds_toArray, List.set_cons_zero, List.set_cons_succ]
          refine take_mk 1 (v := ?vv2) rfl (by kernel_rfl) (by kernel_rfl) (by kernel_rfl) (fun _ _ _ h => h) (Or.inl ⟨by rfl, ?hy2⟩) (by assumption) ?_
          case hy2 => (intro wx hSw; (try dsimp only at hSw); go_simp; try with_reducible rfl)
          try simp only [Act.put, List.setIfInBounds_toArray, List.set_cons_zero, List.set_cons_succ]
          refine take_mk 2 (v := ?vv3) rfl (by kernel_rfl) (by kernel_rfl) (by kernel_rfl) (fun _ _ _ h => h) (Or.inl ⟨by rfl, ?hy3⟩) (by assumption) ?_
          case hy3 => (intro wx hSw; (try dsimp only at hSw); go_simp; try with_reducible rfl)
          try simp only [Act.put, List.setIfInBounds_toArray, List.set_cons_zero, List.set_cons_succ]
          refine take_mk 3 (v := ?vv4) rfl (by kernel_rfl) (by kernel_rfl) (by kernel_rfl) (fun _ _ _ h => h) (Or.inl ⟨by rfl, ?hy4⟩) (by assumption) ?_
          case hy4 => (intro wx hSw; (try dsimp only at hSw); go_simp; try with_reducible rfl)
          try simp only [Act.put, List.setIfInBounds_toArray, List.set_cons_zero, List.set_cons_succ]
          refine take_mk 4 (v := ?vv5) rfl (by kernel_rfl) (by kernel_rfl) (by kernel_rfl) (fun _ _ _ h => h) (Or.inl ⟨by rfl, ?hy5⟩) (by assumption) ?_
          case hy5 => (intro wx hSw; (try dsimp only at hSw); go_simp; try with_reducible rfl)
          try simp only [Act.put, List.setIfInBounds_toArray, List.set_cons_zero, List.set_cons_succ]
          refine take_mk 5 (v := ?vv6) rfl (by kernel_rfl) (by kernel_rfl) (by kernel_rfl) (fun _ _ _ h => h) (Or.inl ⟨by rfl, ?hy6⟩) (by assumption) ?_
          case hy6 => (intro wx hSw; (try dsimp only at hSw); go_simp; try with_reducible rfl)
          try simp only [Act.put, List.setIfInBounds_toArray, List.set_cons_zero, List.set_cons_succ]
          refine take_mk 6 (v := ?vv7) rfl (by kernel_rfl) (by kernel_rfl) (by kernel_rfl) (fun _ _ _ h => h) (Or.inl ⟨by rfl, ?hy7⟩) (by assumption) ?_
          case hy7 => (intro wx hSw; (try dsimp only at hSw); go_simp; try with_reducible rfl)
          try simp only [Act.put, List.setIfInBounds_toArray, List.set_cons_zero, List.set_cons_succ]
          refine take_mk 7 (v := ?vv8) rfl (by kernel_rfl) (by kernel_rfl) (by kernel_rfl) (fun _ _ _ h => h) (Or.inl ⟨by rfl, ?hy8⟩) (by assumption) ?_
          case hy8 => (intro wx hSw; (try dsimp only at hSw); go_simp; try with_reducible rfl)
          try simp only [Act.put, List.setIfInBounds_toArray, List.set_cons_zero, List.set_cons_succ]
          refine take_mk 8 (v := ?vv9) rfl (by kernel_rfl) (by kernel_rfl) (by kernel_rfl) (fun _ _ _ h => h) (Or.inl ⟨by rfl, ?hy9⟩) (by assumption) ?_
          case hy9 => (intro wx hSw; (try dsimp only at hSw); go_simp; try with_reducible rfl)
          try simp only [Act.put, List.setIfInBounds_toArray, List.set_cons_zero, List.set_cons_succ]
          refine take_mk 9 (v := ?vv10) rfl (by kernel_rfl) (by kernel_rfl) (by kernel_rfl) (fun _ _ _ h => h) (Or.inl ⟨by rfl, ?hy10⟩) (by assumption) ?_
          case hy10 => (intro wx hSw; (try dsimp only at hSw); go_simp; try with_reducible rfl)
          try simp only [Act.put, List.setIfInBounds_toArray, List.set_cons_zero, List.set_cons_succ]
          refine take_mk 11 (v := ?vv11) rfl (by kernel_rfl) (by kernel_rfl) (by kernel_rfl) (fun _ _ _ h => h) (Or.inl ⟨by rfl, ?hy11⟩) (by assumption) ?_
          case hy11 => (intro wx hSw; (try dsimp only at hSw); go_simp; try with_reducible rfl)
          try simp only [Act.put, List.setIfInBounds_toArray, List.set_cons_zero, List.set_cons_succ]
          refine take_mk 13 (v := ?vv12) rfl (by kernel_rfl) (by kernel_rfl) (by kernel_rfl) (fun _ _ _ h => h) (Or.inl ⟨by rfl, ?hy12⟩) (by assumption) ?_
          case hy12 => (intro wx hSw; (try dsimp only at hSw); go_simp; try with_reducible rfl)
          try simp only [Act.put, List.setIfInBounds_toArray, List.set_cons_zero, List.set_cons_succ]
          refine take_mk 14 (v := ?vv13) rfl (by kernel_rfl) (by kernel_rfl) (by kernel_rfl) (fun _ _ _ h => h) (Or.inl ⟨by rfl, ?hy13⟩) (by assumption) ?_
          case hy13 => (intro wx hSw; (try dsimp only at hSw); go_simp; try with_reducible rfl)
          try simp only [Act.put, List.setIfInBounds_toArray, List.set_cons_zero, List.set_cons_succ]
          refine wpAnyH_ready (rs := [10, 16]) (by kernel_rfl) (by simp) ?_
          refine cons_mk rfl (fun K hK => ?_) ?_
          · go_simp
            refine (HN4.out _).mono ?_; rintro e wx ⟨rfl, hbA⟩; have hzA := hbA.size; go_simp
            refine hK.out _ _ ?_ (fun hHeld => ?_)
            · (first | exact hHeld | (obtain ⟨al, ab, ap⟩ := hHeld; exact ⟨Nat.lt_of_lt_of_le al hbB.size, ab.trans (hbB.mono (Nat.le_of_lt al)), ap.below hbB al⟩) | (obtain ⟨al, ab, ap⟩ := hHeld; exact ⟨Nat.lt_of_lt_of_le al hbA.size, ab.trans (hbA.mono (Nat.le_of_lt al)), ap.below hbA al⟩) | (obtain ⟨al, ab, ap⟩ := hHeld; exact keep_alloc al ab ap) | (obtain ⟨al, ab, ap⟩ := hHeld; exact keep_grown al ab ap hgr (by omega)))
            clear hK K
            try simp only [Act.put, List.setIfInBounds_toArray, List.set_cons_zero, List.set_cons_succ]
            refine wpAnyH_ready (rs := [12, 16]) (by kernel_rfl) (by simp) ?_
            refine cons_mk rfl (fun K hK => ?_) ?_
            · go_simp
              refine (HN9.out _).mono ?_; rintro e wx ⟨rfl, hbB⟩; have hzB := hbB.size; go_simp
              refine hK.out _ _ ?_ (fun hHeld => ?_)
              · (first | exact hHeld | (obtain ⟨al, ab, ap⟩ := hHeld; exact ⟨Nat.lt_of_lt_of_le al hbB.size, ab.trans (hbB.mono (Nat.le_of_lt al)), ap.below hbB al⟩) | (obtain ⟨al, ab, ap⟩ := hHeld; exact ⟨Nat.lt_of_lt_of_le al hbA.size, ab.trans (hbA.mono (Nat.le_of_lt al)), ap.below hbA al⟩) | (obtain ⟨al, ab, ap⟩ := hHeld; exact keep_alloc al ab ap) | (obtain ⟨al, ab, ap⟩ := hHeld; exact keep_grown al ab ap hgr (by omega)))
              clear hK K
              try simp only [Act.put, List.setIfInBounds_toArray, List.set_cons_zero, List.set_cons_succ]
              refine take_mk 15 (v := ?vv14) rfl (by kernel_rfl) (by kernel_rfl) (by kernel_rfl) (fun _ _ _ h => h) (Or.inl ⟨by rfl, ?hy14⟩) (by assumption) ?_
              case hy14 => (intro wx hSw; (try dsimp only at hSw); go_simp; try with_reducible rfl)
              try simp only [Act.put, List.setIfInBounds_toArray, List.set_cons_zero, List.set_cons_succ]
              refine wpAnyH_ready (rs := [16]) (by kernel_rfl) (by simp) ?_
              refine cons_mk rfl (fun K hK => ?_) ?_
              · go_simp
                refine hK.out _ _ ?_ (fun hHeld => ?_)
                · (first | exact hHeld | (obtain ⟨al, ab, ap⟩ := hHeld; exact ⟨Nat.lt_of_lt_of_le al hbB.size, ab.trans (hbB.mono (Nat.le_of_lt al)), ap.below hbB al⟩) | (obtain ⟨al, ab, ap⟩ := hHeld; exact ⟨Nat.lt_of_lt_of_le al hbA.size, ab.trans (hbA.mono (Nat.le_of_lt al)), ap.below hbA al⟩) | (obtain ⟨al, ab, ap⟩ := hHeld; exact keep_alloc al ab ap) | (obtain ⟨al, ab, ap⟩ := hHeld; exact keep_grown al ab ap hgr (by omega)))
                clear hK K
                try simp only [Act.put, List.setIfInBounds_toArray, List.set_cons_zero, List.set_cons_succ]
                refine wpAnyH_ready (rs := [17]) (by kernel_rfl) (by simp) ?_
                refine cons_mk rfl (fun K hK => ?_) ?_
                · (rw [if_pos (by rfl)]; refine wp_store_piece 35 (.tmp 6) (.tmp 51) rfl _ _ _ _ _ _ _ rfl rfl (t := 35) (by first | exact zero_piece _ | exact zero_piece_d _ | exact (zero_piece _).below hbB (by simp) | exact ((zero_piece_d _).below hbA (by simp)).below hbB (Nat.lt_of_lt_of_le (by simp) hbA.size)) piece_size ?_; intro wq hpq hgr)
                  refine hK.out _ _ ?_ (fun hHeld => ?_)
                  · (first | exact hHeld | (obtain ⟨al, ab, ap⟩ := hHeld; exact ⟨Nat.lt_of_lt_of_le al hbB.size, ab.trans (hbB.mono (Nat.le_of_lt al)), ap.below hbB al⟩) | (obtain ⟨al, ab, ap⟩ := hHeld; exact ⟨Nat.lt_of_lt_of_le al hbA.size, ab.trans (hbA.mono (Nat.le_of_lt al)), ap.below hbA al⟩) | (obtain ⟨al, ab, ap⟩ := hHeld; exact keep_alloc al ab ap) | (obtain ⟨al, ab, ap⟩ := hHeld; exact keep_grown al ab ap hgr (by omega)))
                  clear hK K
                  try simp only [Act.put]
                  refine wpAnyH_done (by kernel_rfl) ?_ _
                  obtain ⟨al, ab, ap⟩ := hHeld
                  go_wp2_with fail
                  go_meet
                  exact ⟨_, rfl, by omega, by rw [W1.out, W2.out, W3.out, WD.out] at hpq; exact hpq, ap, ab⟩
                exact AllReadyH.nil
              exact AllReadyH.nil
            refine cons_mk rfl (fun K hK => ?_) ?_
            · go_simp
              refine hK.out _ _ ?_ (fun hHeld => ?_)
              · (first | exact hHeld | (obtain ⟨al, ab, ap⟩ := hHeld; exact ⟨Nat.lt_of_lt_of_le al hbB.size, ab.trans (hbB.mono (Nat.le_of_lt al)), ap.below hbB al⟩) | (obtain ⟨al, ab, ap⟩ := hHeld; exact ⟨Nat.lt_of_lt_of_le al hbA.size, ab.trans (hbA.mono (Nat.le_of_lt al)), ap.below hbA al⟩) | (obtain ⟨al, ab, ap⟩ := hHeld; exact keep_alloc al ab ap) | (obtain ⟨al, ab, ap⟩ := hHeld; exact keep_grown al ab ap hgr (by omega)))
              clear hK K
              try simp only [Act.put, List.setIfInBounds_toArray, List.set_cons_zero, List.set_cons_succ]
              refine wpAnyH_ready (rs := [12]) (by kernel_rfl) (by simp) ?_
              refine cons_mk rfl (fun K hK => ?_) ?_
              · go_simp
                refine (HN9.out _).mono ?_; rintro e wx ⟨rfl, hbB⟩; have hzB := hbB.size; go_simp
                refine hK.out _ _ ?_ (fun hHeld => ?_)
                · (first | exact hHeld | (obtain ⟨al, ab, ap⟩ := hHeld; exact ⟨Nat.lt_of_lt_of_le al hbB.size, ab.trans (hbB.mono (Nat.le_of_lt al)), ap.below hbB al⟩) | (obtain ⟨al, ab, ap⟩ := hHeld; exact ⟨Nat.lt_of_lt_of_le al hbA.size, ab.trans (hbA.mono (Nat.le_of_lt al)), ap.below hbA al⟩) | (obtain ⟨al, ab, ap⟩ := hHeld; exact keep_alloc al ab ap) | (obtain ⟨al, ab, ap⟩ := hHeld; exact keep_grown al ab ap hgr (by omega)))
                clear hK K
                try simp only [Act.put, List.setIfInBounds_toArray, List.set_cons_zero, List.set_cons_succ]
                refine take_mk 15 (v := ?vv15) rfl (by kernel_rfl) (by kernel_rfl) (by kernel_rfl) (fun _ _ _ h => h) (Or.inl ⟨by rfl, ?hy15⟩) (by assumption) ?_
                case hy15 => (intro wx hSw; (try dsimp only at hSw); go_simp; try with_reducible rfl)
                try simp only [Act.put, List.setIfInBounds_toArray, List.set_cons_zero, List.set_cons_succ]
                refine wpAnyH_ready (rs := [17]) (by kernel_rfl) (by simp) ?_
                refine cons_mk rfl (fun K hK => ?_) ?_
                · (rw [if_pos (by rfl)]; refine wp_store_piece 35 (.tmp 6) (.tmp 51) rfl _ _ _ _ _ _ _ rfl rfl (t := 35) (by first | exact zero_piece _ | exact zero_piece_d _ | exact (zero_piece _).below hbB (by simp) | exact ((zero_piece_d _).below hbA (by simp)).below hbB (Nat.lt_of_lt_of_le (by simp) hbA.size)) piece_size ?_; intro wq hpq hgr)
                  refine hK.out _ _ ?_ (fun hHeld => ?_)
                  · (first | exact hHeld | (obtain ⟨al, ab, ap⟩ := hHeld; exact ⟨Nat.lt_of_lt_of_le al hbB.size, ab.trans (hbB.mono (Nat.le_of_lt al)), ap.below hbB al⟩) | (obtain ⟨al, ab, ap⟩ := hHeld; exact ⟨Nat.lt_of_lt_of_le al hbA.size, ab.trans (hbA.mono (Nat.le_of_lt al)), ap.below hbA al⟩) | (obtain ⟨al, ab, ap⟩ := hHeld; exact keep_alloc al ab ap) | (obtain ⟨al, ab, ap⟩ := hHeld; exact keep_grown al ab ap hgr (by omega)))
                  clear hK K
                  try simp only [Act.put]
                  refine wpAnyH_done (by kernel_rfl) ?_ _
                  obtain ⟨al, ab, ap⟩ := hHeld
                  go_wp2_with fail
                  go_meet
                  exact ⟨_, rfl, by omega, by rw [W1.out, W2.out, W3.out, WD.out] at hpq; exact hpq, ap, ab⟩
                exact AllReadyH.nil
              exact AllReadyH.nil
            exact AllReadyH.nil
          refine cons_mk rfl (fun K hK => ?_) ?_
          · go_simp
            refine hK.out _ _ ?_ (fun hHeld => ?_)
            · (first | exact hHeld | (obtain ⟨al, ab, ap⟩ := hHeld; exact ⟨Nat.lt_of_lt_of_le al hbB.size, ab.trans (hbB.mono (Nat.le_of_lt al)), ap.below hbB al⟩) | (obtain ⟨al, ab, ap⟩ := hHeld; exact ⟨Nat.lt_of_lt_of_le al hbA.size, ab.trans (hbA.mono (Nat.le_of_lt al)), ap.below hbA al⟩) | (obtain ⟨al, ab, ap⟩ := hHeld; exact keep_alloc al ab ap) | (obtain ⟨al, ab, ap⟩ := hHeld; exact keep_grown al ab ap hgr (by omega)))
            clear hK K
            try simp only [Act.put, List.setIfInBounds_toArray, List.set_cons_zero, List.set_cons_succ]
            refine wpAnyH_ready (rs := [10]) (by kernel_rfl) (by simp) ?_
            refine cons_mk rfl (fun K hK => ?_) ?_
            · go_simp
              refine (HN4.out _).mono ?_; rintro e wx ⟨rfl, hbA⟩; have hzA := hbA.size; go_simp
              refine hK.out _ _ ?_ (fun hHeld => ?_)
              · (first | exact hHeld | (obtain ⟨al, ab, ap⟩ := hHeld; exact ⟨Nat.lt_of_lt_of_le al hbB.size, ab.trans (hbB.mono (Nat.le_of_lt al)), ap.below hbB al⟩) | (obtain ⟨al, ab, ap⟩ := hHeld; exact ⟨Nat.lt_of_lt_of_le al hbA.size, ab.trans (hbA.mono (Nat.le_of_lt al)), ap.below hbA al⟩) | (obtain ⟨al, ab, ap⟩ := hHeld; exact keep_alloc al ab ap) | (obtain ⟨al, ab, ap⟩ := hHeld; exact keep_grown al ab ap hgr (by omega)))
              clear hK K
              try simp only [Act.put, List.setIfInBounds_toArray, List.set_cons_zero, List.set_cons_succ]
              refine wpAnyH_ready (rs := [12]) (by kernel_rfl) (by simp) ?_
              refine cons_mk rfl (fun K hK => ?_) ?_
              · go_simp
                refine (HN9.out _).mono ?_; rintro e wx ⟨rfl, hbB⟩; have hzB := hbB.size; go_simp
                refine hK.out _ _ ?_ (fun hHeld => ?_)
                · (first | exact hHeld | (obtain ⟨al, ab, ap⟩ := hHeld; exact ⟨Nat.lt_of_lt_of_le al hbB.size, ab.trans (hbB.mono (Nat.le_of_lt al)), ap.below hbB al⟩) | (obtain ⟨al, ab, ap⟩ := hHeld; exact ⟨Nat.lt_of_lt_of_le al hbA.size, ab.trans (hbA.mono (Nat.le_of_lt al)), ap.below hbA al⟩) | (obtain ⟨al, ab, ap⟩ := hHeld; exact keep_alloc al ab ap) | (obtain ⟨al, ab, ap⟩ := hHeld; exact keep_grown al ab ap hgr (by omega)))
                clear hK K
                try simp only [Act.put, List.setIfInBounds_toArray, List.set_cons_zero, List.set_cons_succ]
                refine take_mk 15 (v := ?vv16) rfl (by kernel_rfl) (by kernel_rfl) (by kernel_rfl) (fun _ _ _ h => h) (Or.inl ⟨by rfl, ?hy16⟩) (by assumption) ?_
                case hy16 => (intro wx hSw; (try dsimp only at hSw); go_simp; try with_reducible rfl)
                try simp only [Act.put, List.setIfInBounds_toArray, List.set_cons_zero, List.set_cons_succ]
                refine wpAnyH_ready (rs := [17]) (by kernel_rfl) (by simp) ?_
                refine cons_mk rfl (fun K hK => ?_) ?_
                · (rw [if_pos (by rfl)]; refine wp_store_piece 35 (.tmp 6) (.tmp 51) rfl _ _ _ _ _ _ _ rfl rfl (t := 35) (by first | exact zero_piece _ | exact zero_piece_d _ | exact (zero_piece _).below hbB (by simp) | exact ((zero_piece_d _).below hbA (by simp)).below hbB (Nat.lt_of_lt_of_le (by simp) hbA.size)) piece_size ?_; intro wq hpq hgr)
                  refine hK.out _ _ ?_ (fun hHeld => ?_)
                  · (first | exact hHeld | (obtain ⟨al, ab, ap⟩ := hHeld; exact ⟨Nat.lt_of_lt_of_le al hbB.size, ab.trans (hbB.mono (Nat.le_of_lt al)), ap.below hbB al⟩) | (obtain ⟨al, ab, ap⟩ := hHeld; exact ⟨Nat.lt_of_lt_of_le al hbA.size, ab.trans (hbA.mono (Nat.le_of_lt al)), ap.below hbA al⟩) | (obtain ⟨al, ab, ap⟩ := hHeld; exact keep_alloc al ab ap) | (obtain ⟨al, ab, ap⟩ := hHeld; exact keep_grown al ab ap hgr (by omega)))
                  clear hK K
                  try simp only [Act.put]
                  refine wpAnyH_done (by kernel_rfl) ?_ _
                  obtain ⟨al, ab, ap⟩ := hHeld
                  go_wp2_with fail
                  go_meet
                  exact ⟨_, rfl, by omega, by rw [W1.out, W2.out, W3.out, WD.out] at hpq; exact hpq, ap, ab⟩
                exact AllReadyH.nil
              exact AllReadyH.nil
            exact AllReadyH.nil
          exact AllReadyH.nil
        case rest =>
          obtain ⟨b, rfl, hbl, hpb, hp3, hb3⟩ := hcut
          obtain ⟨d0, d1, d2, d3, d4, d5⟩ := hpb.cells
          clear hs3 hp1 hb1 hp2 hb2 hlt2 x1 x2 x3
          have hbs := hb3.size
          by_cases hv : validB (fVol s.data.toList) (fFrag s.data.toList) (fStripe s.data.toList) (fGen s.data.toList) (fVer s.data.toList) (fData s.data.toList).length = true
          · go_wp2_with fail
            refine (enc_prog_yes _ _ _ _ _ _ _ hv).mono ?_
            rintro e w4 ⟨rfl, hb4⟩
            have hp4 := hp3.below hb4 hp3.lt
            have hpb4 := hpb.below hb4 hpb.lt
            have hb5 := hb3.trans (hb4.mono hbs)
            clear d0 d1 d2 d3 d4 d5 hp3 hpb hb3 hb4 hbs
            rw [show ({ data := (fData s.data.toList).toArray } : ByteArray).data.toList = fData s.data.toList from rfl]
            obtain ⟨d0, d1, d2, d3, d4, d5⟩ := hpb4.cells
            by_cases hE : encL (fVol s.data.toList) (fFrag s.data.toList) (fStripe s.data.toList) (fGen s.data.toList) (fVer s.data.toList) (fData s.data.toList) = s.data.toList
            · have hq : (!(encL (fVol s.data.toList) (fFrag s.data.toList) (fStripe s.data.toList) (fGen s.data.toList) (fVer s.data.toList) (fData s.data.toList) == s.toList)) = false := by
                rw [ByteArray.toList_eq, hE]; simp
              have hfm : formB s.data.toList = true := by unfold formB; rw [hv, hE]; simp
              have he := hid (err_ok _ HL.out HB.out h3 hfm)
              clear hE hfm
              go_wp2_with (refine wpList_store_row rfl 35 (.tmp 2) (.tmp 65) rfl w.heap.size #[.int .i64 (fVol s.data.toList), .int .i64 (fFrag s.data.toList), .int .i64 (fStripe s.data.toList), .int .i64 (fGen s.data.toList), .int .i64 (fVer s.data.toList), str (fData s.data.toList)] rfl rfl 35 _ hp4 piece_size rfl (piece_one _ _ _ _ _ _) ?_)
              have hb6 := below_setRow hb5 (Nat.le_refl _) #[.int .i64 (fVol s.data.toList), .int .i64 (fFrag s.data.toList), .int .i64 (fStripe s.data.toList), .int .i64 (fGen s.data.toList), .int .i64 (fVer s.data.toList), str (fData s.data.toList)]
              have hg6 := setRow_heap w4 _ _ #[.int .i64 (fVol s.data.toList), .int .i64 (fFrag s.data.toList), .int .i64 (fStripe s.data.toList), .int .i64 (fGen s.data.toList), .int .i64 (fVer s.data.toList), str (fData s.data.toList)] _ _ hp4
              generalize w4.setRow w.heap.size #[.int .i64 (fVol s.data.toList), .int .i64 (fFrag s.data.toList), .int .i64 (fStripe s.data.toList), .int .i64 (fGen s.data.toList), .int .i64 (fVer s.data.toList), str (fData s.data.toList)] = w6 at hb6 hg6 ⊢
              go_wp2
              refine bodyPost_ret (results_cell_tmp Try.results31 _ _ w.heap.size _ _ _ _ rfl hg6 Try.underlying35 rfl piece_size) rfl ⟨by rw [he.out, dec_yes _ he.out]; rfl, hb6⟩
            · have hq : (!(encL (fVol s.data.toList) (fFrag s.data.toList) (fStripe s.data.toList) (fGen s.data.toList) (fVer s.data.toList) (fData s.data.toList) == s.toList)) = true := by
                rw [ByteArray.toList_eq]; simpa using hE
              have hfm : formB s.data.toList = false := by unfold formB; rw [hv]; simpa using hE
              have he := hid (err_form _ HL.out HB.out h3 hfm)
              clear hE hfm
              go_wp2_with (refine wpList_store_row rfl 35 (.tmp 2) (.tmp 64) rfl w.heap.size zeroCells rfl rfl 35 _ hp4 piece_size rfl (piece_one _ _ _ _ _ _) ?_)
              have hb6 := below_setRow hb5 (Nat.le_refl _) zeroCells
              have hg6 := setRow_heap w4 _ _ zeroCells _ _ hp4
              generalize w4.setRow w.heap.size zeroCells = w6 at hb6 hg6 ⊢
              go_wp2
              refine bodyPost_ret (results_cell_tmp Try.results31 _ _ w.heap.size _ _ _ _ rfl hg6 Try.underlying35 rfl piece_size) rfl ⟨by rw [he.out, dec_no _ he.out (by decide)]; rfl, hb6⟩
          · have hv' : validB (fVol s.data.toList) (fFrag s.data.toList) (fStripe s.data.toList) (fGen s.data.toList) (fVer s.data.toList) (fData s.data.toList).length = false := by simpa using hv
            go_wp2_with fail
            refine (enc_prog_no _ _ _ _ _ _ _ hv').mono ?_
            rintro e w4 ⟨rfl, hb4⟩
            have hp4 := hp3.below hb4 hp3.lt
            have hb5 := hb3.trans (hb4.mono hbs)
            clear d0 d1 d2 d3 d4 d5 hp3 hpb hb3 hb4 hbs
            go_wp2_with (refine wpList_store_row rfl 35 (.tmp 2) (.tmp 64) rfl w.heap.size zeroCells rfl rfl 35 _ hp4 piece_size rfl (piece_one _ _ _ _ _ _) ?_)
            have hb6 := below_setRow hb5 (Nat.le_refl _) zeroCells
            have hg6 := setRow_heap w4 _ _ zeroCells _ _ hp4
            generalize w4.setRow w.heap.size zeroCells = w6 at hb6 hg6 ⊢
            go_wp2
            have hfm : formB s.data.toList = false := by unfold formB; rw [hv']; rfl
            have he := err_form _ HL.out HB.out h3 hfm
            refine bodyPost_ret (results_cell_tmp Try.results31 _ _ w.heap.size _ _ _ _ rfl hg6 Try.underlying35 rfl piece_size) rfl ⟨by rw [he, dec_no _ he (by decide)]; rfl, hb6⟩
      · have h3' : sumB s.data.toList = false := by simpa using h3
        have hs3 : (num (List.take 4 (List.drop 32 s.data.toList)) != ((crc (List.take 32 s.data.toList)).toNat : Int)) = true := by rw [sum_num _ _ h3']; rfl
        go_wp2_with (refine wpList_store_row rfl 35 (.tmp 2) (.tmp 35) rfl w.heap.size zeroCells rfl rfl 35 _ hp2 piece_size rfl (piece_one _ _ _ _ _ _) ?_)
        have hb3 := below_setRow hb2 (Nat.le_refl _) zeroCells
        have hg3 := setRow_heap w2 _ _ zeroCells _ _ hp2
        generalize w2.setRow w.heap.size zeroCells = w3 at hb3 hg3 ⊢
        go_wp2
        refine bodyPost_ret (results_cell_tmp Try.results31 _ _ w.heap.size _ _ _ _ rfl hg3 Try.underlying35 rfl piece_size) rfl ⟨by rw [err_sum _ HL.out HB.out h3', dec_no _ (err_sum _ HL.out HB.out h3') (by decide)]; rfl, hb3⟩

theorem dec_prog (s : ByteArray) (w : World) (hs : s.size ≤ maxLen) :
    Calls Try.prog 31 #[.string s] w fun e w' => e = .returned (.tuple #[.agg (decCells s.data.toList), .int .i64 (errOf s.data.toList)]) ∧ Below w.heap.size w w' := by
  by_cases h36 : s.size = 36
  · by_cases hb : s.data.toList = zeros 36
    · have he := err_blank s.data.toList (by simpa using h36) hb
      rw [dec_no _ he (by decide), he]
      exact dec_prog_blank s w h36 hb
    · exact dec_prog_rest s w h36 hb
  · have he := err_len s.data.toList (by simpa using h36)
    rw [dec_no _ he (by decide), he]
    exact dec_prog_len s w hs h36
end Go.Proofs.Ytgeopgibjmhehaa

/- Decode of the reference. -/
namespace Go.Proofs.Ytgeopgibjmhehaa
open Go.RowKit Go.Sort
attribute [local go_sem ↓] Go.wp_at_zero Go.wp_at_succ

end Go.Proofs.Ytgeopgibjmhehaa
