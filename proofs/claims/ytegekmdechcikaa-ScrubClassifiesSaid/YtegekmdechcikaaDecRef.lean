/- Decode of the reference. -/
import Derived.Test.YtegekmdechcikaaDec
namespace Go.Proofs.Ytegekmdechcikaa
open Go.RowKit Go.Sort
attribute [local go_sem ↓] Go.wp_at_zero Go.wp_at_succ

set_option maxHeartbeats 1000000 in
theorem dec_ref_len (s : ByteArray) (w : World) (_hs : s.size ≤ maxLen) (h36 : s.size ≠ 36) :
    Calls Try.prog 60 #[.string s] w fun e w' => e = .returned (.tuple #[.agg zeroCells, .int .i64 101]) ∧ Below w.heap.size w w' := by
  have hne : ((s.size : Int) != 36) = true := by rw [bne_iff_ne]; omega
  go_enter Try.func60, Try.ntmps60
  go_wp2
  refine bodyPost_ret (results_cell_tmp Try.results60 _ _ w.heap.size _ _ _ _ rfl (zero_piece w) Try.underlying23 rfl piece_size) rfl ⟨rfl, (Below.refl _ _).alloc (Nat.le_refl _) _⟩

set_option maxRecDepth 100000 in
set_option maxHeartbeats 4000000 in
theorem dec_ref_36 (s : ByteArray) (w : World) (h36 : s.size = 36) :
    Calls Try.prog 60 #[.string s] w fun e w' => e = .returned (.tuple #[.agg (decCells s.data.toList), .int .i64 (errOf s.data.toList)]) ∧ Below w.heap.size w w' := by
  have hne : ((s.size : Int) != 36) = false := by rw [bne_eq_false_iff_eq]; omega
  have hl36 : s.data.toList.length = 36 := by simpa using h36
  have HL := hid hl36
  clear hl36
  have hsz : (36 : Int) ≤ s.size := by omega
  go_enter Try.func60, Try.ntmps60
  go_wp2_with fail
  have hp0 := zero_piece w
  have hb0 : Below w.heap.size w (w.alloc (.cells #[.int .i64 0, .int .i64 0, .int .i64 0, .int .i64 0, .int .i64 0, .string { data := #[] }] 23)) := (Below.refl _ _).alloc (Nat.le_refl _) _
  generalize (w.alloc (.cells #[.int .i64 0, .int .i64 0, .int .i64 0, .int .i64 0, .int .i64 0, .string { data := #[] }] 23)) = w0 at hp0 hb0 ⊢
  refine (blank_any _).mono ?_
  rintro e w1 ⟨rfl, hw1⟩
  have hp1 : Piece w1 w.heap.size 0 0 0 0 0 { data := #[] } 23 := by rw [← hw1]; exact hp0.alloc _
  have hb1 : Below w.heap.size w w1 := by rw [← hw1]; exact hb0.alloc hb0.size _
  clear hw1 hp0 hb0
  by_cases hb : s.data.toList = zeros 36
  · have hq : (s.toList == zeros 36) = true := by rw [ByteArray.toList_eq, hb]; simp
    have he := hid (err_blank s.data.toList HL.out hb)
    clear hb
    go_wp2_with (refine wpList_store_row rfl 23 (.tmp 2) (.tmp 14) rfl w.heap.size zeroCells rfl rfl 23 _ hp1 piece_size rfl (piece_one _ _ _ _ _ _) ?_)
    have hb6 := below_setRow hb1 (Nat.le_refl _) zeroCells
    have hg6 := setRow_heap w1 _ _ zeroCells _ _ hp1
    generalize w1.setRow w.heap.size zeroCells = w6 at hb6 hg6 ⊢
    go_wp2
    refine bodyPost_ret (results_cell_tmp Try.results60 _ _ w.heap.size _ _ _ _ rfl hg6 Try.underlying23 rfl piece_size) rfl ⟨by rw [he.out, dec_no _ he.out (by decide)]; rfl, hb6⟩
  · have hq : (s.toList == zeros 36) = false := by rw [ByteArray.toList_eq]; simpa using hb
    have HB := hid hb
    clear hb
    have hfit : (32 : Nat) ≤ s.size := by omega
    go_wp2_with fail
    refine (sealed_any (s.extract 0 32) _ (by simp; omega)).mono ?_
    rintro e w2 ⟨rfl, hb2'⟩
    have hp2 := hp1.below hb2' hp1.lt
    have hb2 := hb1.trans (hb2'.mono hb1.size)
    clear hp1 hb1 hb2' hq
    rw [show sealL (s.extract 0 32).data.toList = sealL (s.data.toList.take 32) by rw [extract_toList]; rfl]
    by_cases h3 : sumB s.data.toList = true
    · have hs3 : (!(sealL (s.data.toList.take 32) == s.toList)) = false := by rw [ByteArray.toList_eq, (sealed_iff _ HL.out).2 h3]; simp
      have hlt2 := hp2.lt
      have i1 : ((s[1].toNat : Int)) = fVol s.data.toList := by unfold fVol; rw [getD_byte s 1 (by omega)]
      have i2 : ((s[2].toNat : Int)) = fFrag s.data.toList := by unfold fFrag; rw [getD_byte s 2 (by omega)]
      have i3 : ((s[3].toNat : Int)) = fStripe s.data.toList := by unfold fStripe; rw [getD_byte s 3 (by omega)]
      have w1' : IntKind.i64.wrap (s[1].toNat : Int) = fVol s.data.toList := by rw [← i1]; have := s[1].toNat_lt; exact IntWalk.i64_in _ (by omega)
      have w2' : IntKind.i64.wrap (s[2].toNat : Int) = fFrag s.data.toList := by rw [← i2]; have := s[2].toNat_lt; exact IntWalk.i64_in _ (by omega)
      have w3' : IntKind.i64.wrap (s[3].toNat : Int) = fStripe s.data.toList := by rw [← i3]; have := s[3].toNat_lt; exact IntWalk.i64_in _ (by omega)
      have wd' : s.extract 16 32 = (⟨(fData s.data.toList).toArray⟩ : ByteArray) := by
        apply ByteArray.ext
        apply Array.ext'
        rw [extract_toList]; rfl
      have W1 := hid w1'
      have W2 := hid w2'
      have W3 := hid w3'
      have WD := hid wd'
      clear i1 i2 i3 w1' w2' w3' wd'
      have hn4 : ∀ W, Calls Try.prog 72 #[.string (s.extract 4 9)] W fun e w' => e = .returned (.int .i64 (fGen s.data.toList)) ∧ W = w' := fun W => by
        have := number_ref (s.extract 4 9) W (by simp; omega)
        rw [extract_toList] at this
        exact this
      have hn9 : ∀ W, Calls Try.prog 72 #[.string (s.extract 9 14)] W fun e w' => e = .returned (.int .i64 (fVer s.data.toList)) ∧ W = w' := fun W => by
        have := number_ref (s.extract 9 14) W (by simp; omega)
        rw [extract_toList] at this
        exact this
      have HN4 := hid hn4
      have HN9 := hid hn9
      clear hn4 hn9
      go_upto_region 7 with (fail)
      go_cut [4] (fun s4 wx => ∃ b : Nat, s4 = .pointer (some ⟨b, 0, none⟩) ∧ w.heap.size < b ∧ Piece wx b (fVol s.data.toList) (fFrag s.data.toList) (fStripe s.data.toList) (fGen s.data.toList) (fVer s.data.toList) ⟨(fData s.data.toList).toArray⟩ 23 ∧ Piece wx w.heap.size 0 0 0 0 0 { data := #[] } 23 ∧ Below w.heap.size w wx)
      case first =>
        refine wp_region_held_drew (S := (fun w' => w.heap.size < w'.heap.size ∧ Below w.heap.size w w' ∧ Piece w' w.heap.size 0 0 0 0 0 { data := #[] } 23)) (by kernel_rfl) ?_ (fun hHeld => ?_)
        · exact ⟨hlt2, hb2.drew, hp2⟩
        refine take_mk 0 (v := ?vv1) rfl (by kernel_rfl) (by kernel_rfl) (by kernel_rfl) (fun _ _ _ h => h) (Or.inl ⟨by rfl, ?hy1⟩) (by assumption) ?_
        case hy1 => (intro wx hSw; (try dsimp only at hSw); go_simp; try with_reducible rfl)
        try simp only [Act.put, List.setIfInBounds_toArray, List.set_cons_zero, List.set_cons_succ]
        refine take_mk 1 (v := ?vv2) rfl (by kernel_rfl) (by kernel_rfl) (by kernel_rfl) (fun _ _ _ h => h) (Or.inl ⟨by rfl, ?hy2⟩) (by assumption) ?_
        case hy2 => (intro wx hSw; (try dsimp only at hSw); go_simp; try with_reducible rfl)
        try simp only [Act.put, List.setIfInBounds_toArray, List.set_cons_zero, List.set_cons_succ]
        refine take_mk 2 (v := ?vv3) rfl (by kernel_rfl) (by kernel_rfl) (by kernel_rfl) (fun _ _ _ h => h) (Or.inl ⟨by rfl, ?hy3⟩) (by assumption) ?_
        case hy3 => (intro wx hSw; (try dsimp only at hSw); go_simp; try with_reducible rfl)
        try simp only [Act.put, List.setIfInBounds_toArray, List.set_cons_zero, List.set_cons_succ]
        refine take_mk 3 (v := ?vv4) rfl (by kernel_rfl) (by kernel_rfl) (by kernel_rfl) (fun _ _ _ h => h) (Or.inl ⟨by rfl, ?hy4⟩) (by assumption) ?_
        case hy4 => (intro wx hSw; (try dsimp only at hSw); go_simp; try with_reducible rfl)
        try simp only [Act.put, List.setIfInBounds_toArray, List.set_cons_zero, List.set_cons_succ]
        refine take_mk 4 (v := ?vv5) rfl (by kernel_rfl) (by kernel_rfl) (by kernel_rfl) (fun _ _ _ h => h) (Or.inl ⟨by rfl, ?hy5⟩) (by assumption) ?_
        case hy5 => (intro wx hSw; (try dsimp only at hSw); go_simp; try with_reducible rfl)
        try simp only [Act.put, List.setIfInBounds_toArray, List.set_cons_zero, List.set_cons_succ]
        refine take_mk 5 (v := ?vv6) rfl (by kernel_rfl) (by kernel_rfl) (by kernel_rfl) (fun _ _ _ h => h) (Or.inl ⟨by rfl, ?hy6⟩) (by assumption) ?_
        case hy6 => (intro wx hSw; (try dsimp only at hSw); go_simp; try with_reducible rfl)
        try simp only [Act.put, List.setIfInBounds_toArray, List.set_cons_zero, List.set_cons_succ]
        refine take_mk 6 (v := ?vv7) rfl (by kernel_rfl) (by kernel_rfl) (by kernel_rfl) (fun _ _ _ h => h) (Or.inl ⟨by rfl, ?hy7⟩) (by assumption) ?_
        case hy7 => (intro wx hSw; (try dsimp only at hSw); go_simp; try with_reducible rfl)
        try simp only [Act.put, List.setIfInBounds_toArray, List.set_cons_zero, List.set_cons_succ]
        refine take_mk 7 (v := ?vv8) rfl (by kernel_rfl) (by kernel_rfl) (by kernel_rfl) (fun _ _ _ h => h) (Or.inl ⟨by rfl, ?hy8⟩) (by assumption) ?_
        case hy8 => (intro wx hSw; (try dsimp only at hSw); go_simp; try with_reducible rfl)
        try simp only [Act.put, List.setIfInBounds_toArray, List.set_cons_zero, List.set_cons_succ]
        refine take_mk 8 (v := ?vv9) rfl (by kernel_rfl) (by kernel_rfl) (by kernel_rfl) (fun _ _ _ h => h) (Or.inl ⟨by rfl, ?hy9⟩) (by assumption) ?_
        case hy9 => (intro wx hSw; (try dsimp only at hSw); go_simp; try with_reducible rfl)
        try simp only [Act.put, List.setIfInBounds_toArray, List.set_cons_zero, List.set_cons_succ]
        refine take_mk 9 (v := ?vv10) rfl (by kernel_rfl) (by kernel_rfl) (by kernel_rfl) (fun _ _ _ h => h) (Or.inl ⟨by rfl, ?hy10⟩) (by assumption) ?_
        case hy10 => (intro wx hSw; (try dsimp only at hSw); go_simp; try with_reducible rfl)
        try simp only [Act.put, List.setIfInBounds_toArray, List.set_cons_zero, List.set_cons_succ]
        refine take_mk 10 (v := ?vv11) rfl (by kernel_rfl) (by kernel_rfl) (by kernel_rfl) (fun _ _ _ h => h) (Or.inl ⟨by rfl, ?hy11⟩) (by assumption) ?_
        case hy11 => (intro wx hSw; (try dsimp only at hSw); go_simp; try with_reducible rfl)
        try simp only [Act.put, List.setIfInBounds_toArray, List.set_cons_zero, List.set_cons_succ]
        refine take_mk 12 (v := ?vv12) rfl (by kernel_rfl) (by kernel_rfl) (by kernel_rfl) (fun _ _ _ h => h) (Or.inl ⟨by rfl, ?hy12⟩) (by assumption) ?_
        case hy12 => (intro wx hSw; (try dsimp only at hSw); go_simp; try with_reducible rfl)
        try simp only [Act.put, List.setIfInBounds_toArray, List.set_cons_zero, List.set_cons_succ]
        refine take_mk 13 (v := ?vv13) rfl (by kernel_rfl) (by kernel_rfl) (by kernel_rfl) (fun _ _ _ h => h) (Or.inl ⟨by rfl, ?hy13⟩) (by assumption) ?_
        case hy13 => (intro wx hSw; (try dsimp only at hSw); go_simp; try with_reducible rfl)
        try simp only [Act.put, List.setIfInBounds_toArray, List.set_cons_zero, List.set_cons_succ]
        refine take_mk 15 (v := ?vv14) rfl (by kernel_rfl) (by kernel_rfl) (by kernel_rfl) (fun _ _ _ h => h) (Or.inl ⟨by rfl, ?hy14⟩) (by assumption) ?_
        case hy14 => (intro wx hSw; (try dsimp only at hSw); go_simp; try with_reducible rfl)
        try simp only [Act.put, List.setIfInBounds_toArray, List.set_cons_zero, List.set_cons_succ]
        refine take_mk 16 (v := ?vv15) rfl (by kernel_rfl) (by kernel_rfl) (by kernel_rfl) (fun _ _ _ h => h) (Or.inl ⟨by rfl, ?hy15⟩) (by assumption) ?_
        case hy15 => (intro wx hSw; (try dsimp only at hSw); go_simp; try with_reducible rfl)
        try simp only [Act.put, List.setIfInBounds_toArray, List.set_cons_zero, List.set_cons_succ]
        refine wpAnyH_ready (rs := [11, 18]) (by kernel_rfl) (by simp) ?_
        refine cons_mk rfl (fun K hK => ?_) ?_
        · go_simp
          refine (HN4.out _).mono ?_; rintro e wx ⟨rfl, rfl⟩; go_simp
          refine hK.out _ _ ?_ (fun hHeld => ?_)
          · (first | exact hHeld | (obtain ⟨al, ab, ap⟩ := hHeld; exact keep_alloc al ab ap) | (obtain ⟨al, ab, ap⟩ := hHeld; exact keep_grown al ab ap hgr (by omega)))
          clear hK K
          try simp only [Act.put, List.setIfInBounds_toArray, List.set_cons_zero, List.set_cons_succ]
          refine wpAnyH_ready (rs := [14, 18]) (by kernel_rfl) (by simp) ?_
          refine cons_mk rfl (fun K hK => ?_) ?_
          · go_simp
            refine (HN9.out _).mono ?_; rintro e wx ⟨rfl, rfl⟩; go_simp
            refine hK.out _ _ ?_ (fun hHeld => ?_)
            · (first | exact hHeld | (obtain ⟨al, ab, ap⟩ := hHeld; exact keep_alloc al ab ap) | (obtain ⟨al, ab, ap⟩ := hHeld; exact keep_grown al ab ap hgr (by omega)))
            clear hK K
            try simp only [Act.put, List.setIfInBounds_toArray, List.set_cons_zero, List.set_cons_succ]
            refine take_mk 17 (v := ?vv16) rfl (by kernel_rfl) (by kernel_rfl) (by kernel_rfl) (fun _ _ _ h => h) (Or.inl ⟨by rfl, ?hy16⟩) (by assumption) ?_
            case hy16 => (intro wx hSw; (try dsimp only at hSw); go_simp; try with_reducible rfl)
            try simp only [Act.put, List.setIfInBounds_toArray, List.set_cons_zero, List.set_cons_succ]
            refine wpAnyH_ready (rs := [18]) (by kernel_rfl) (by simp) ?_
            refine cons_mk rfl (fun K hK => ?_) ?_
            · go_simp
              refine hK.out _ _ ?_ (fun hHeld => ?_)
              · (first | exact hHeld | (obtain ⟨al, ab, ap⟩ := hHeld; exact keep_alloc al ab ap) | (obtain ⟨al, ab, ap⟩ := hHeld; exact keep_grown al ab ap hgr (by omega)))
              clear hK K
              try simp only [Act.put, List.setIfInBounds_toArray, List.set_cons_zero, List.set_cons_succ]
              refine wpAnyH_ready (rs := [19]) (by kernel_rfl) (by simp) ?_
              refine cons_mk rfl (fun K hK => ?_) ?_
              · (rw [if_pos (by rfl)]; refine wp_store_piece 23 (.tmp 4) (.tmp 38) rfl _ _ _ _ _ _ _ rfl rfl (t := 23) (by first | exact zero_piece _ | exact zero_piece_d _) piece_size ?_; intro wq hpq hgr)
                refine hK.out _ _ ?_ (fun hHeld => ?_)
                · (first | exact hHeld | (obtain ⟨al, ab, ap⟩ := hHeld; exact keep_alloc al ab ap) | (obtain ⟨al, ab, ap⟩ := hHeld; exact keep_grown al ab ap hgr (by omega)))
                clear hK K
                try simp only [Act.put]
                refine wpAnyH_done (by kernel_rfl) ?_ _
                obtain ⟨al, ab, ap⟩ := hHeld
                go_wp2_with fail
                go_meet
                exact ⟨_, rfl, by omega, by rw [W1.out, W2.out, W3.out, WD.out] at hpq; exact hpq, ap, ab⟩
              exact AllReadyH.nil
            exact AllReadyH.nil
          refine cons_mk rfl (fun K hK => ?_) ?_
          · go_simp
            refine hK.out _ _ ?_ (fun hHeld => ?_)
            · (first | exact hHeld | (obtain ⟨al, ab, ap⟩ := hHeld; exact keep_alloc al ab ap) | (obtain ⟨al, ab, ap⟩ := hHeld; exact keep_grown al ab ap hgr (by omega)))
            clear hK K
            try simp only [Act.put, List.setIfInBounds_toArray, List.set_cons_zero, List.set_cons_succ]
            refine wpAnyH_ready (rs := [14]) (by kernel_rfl) (by simp) ?_
            refine cons_mk rfl (fun K hK => ?_) ?_
            · go_simp
              refine (HN9.out _).mono ?_; rintro e wx ⟨rfl, rfl⟩; go_simp
              refine hK.out _ _ ?_ (fun hHeld => ?_)
              · (first | exact hHeld | (obtain ⟨al, ab, ap⟩ := hHeld; exact keep_alloc al ab ap) | (obtain ⟨al, ab, ap⟩ := hHeld; exact keep_grown al ab ap hgr (by omega)))
              clear hK K
              try simp only [Act.put, List.setIfInBounds_toArray, List.set_cons_zero, List.set_cons_succ]
              refine take_mk 17 (v := ?vv17) rfl (by kernel_rfl) (by kernel_rfl) (by kernel_rfl) (fun _ _ _ h => h) (Or.inl ⟨by rfl, ?hy17⟩) (by assumption) ?_
              case hy17 => (intro wx hSw; (try dsimp only at hSw); go_simp; try with_reducible rfl)
              try simp only [Act.put, List.setIfInBounds_toArray, List.set_cons_zero, List.set_cons_succ]
              refine wpAnyH_ready (rs := [19]) (by kernel_rfl) (by simp) ?_
              refine cons_mk rfl (fun K hK => ?_) ?_
              · (rw [if_pos (by rfl)]; refine wp_store_piece 23 (.tmp 4) (.tmp 38) rfl _ _ _ _ _ _ _ rfl rfl (t := 23) (by first | exact zero_piece _ | exact zero_piece_d _) piece_size ?_; intro wq hpq hgr)
                refine hK.out _ _ ?_ (fun hHeld => ?_)
                · (first | exact hHeld | (obtain ⟨al, ab, ap⟩ := hHeld; exact keep_alloc al ab ap) | (obtain ⟨al, ab, ap⟩ := hHeld; exact keep_grown al ab ap hgr (by omega)))
                clear hK K
                try simp only [Act.put]
                refine wpAnyH_done (by kernel_rfl) ?_ _
                obtain ⟨al, ab, ap⟩ := hHeld
                go_wp2_with fail
                go_meet
                exact ⟨_, rfl, by omega, by rw [W1.out, W2.out, W3.out, WD.out] at hpq; exact hpq, ap, ab⟩
              exact AllReadyH.nil
            exact AllReadyH.nil
          exact AllReadyH.nil
        refine cons_mk rfl (fun K hK => ?_) ?_
        · go_simp
          refine hK.out _ _ ?_ (fun hHeld => ?_)
          · (first | exact hHeld | (obtain ⟨al, ab, ap⟩ := hHeld; exact keep_alloc al ab ap) | (obtain ⟨al, ab, ap⟩ := hHeld; exact keep_grown al ab ap hgr (by omega)))
          clear hK K
          try simp only [Act.put, List.setIfInBounds_toArray, List.set_cons_zero, List.set_cons_succ]
          refine wpAnyH_ready (rs := [11]) (by kernel_rfl) (by simp) ?_
          refine cons_mk rfl (fun K hK => ?_) ?_
          · go_simp
            refine (HN4.out _).mono ?_; rintro e wx ⟨rfl, rfl⟩; go_simp
            refine hK.out _ _ ?_ (fun hHeld => ?_)
            · (first | exact hHeld | (obtain ⟨al, ab, ap⟩ := hHeld; exact keep_alloc al ab ap) | (obtain ⟨al, ab, ap⟩ := hHeld; exact keep_grown al ab ap hgr (by omega)))
            clear hK K
            try simp only [Act.put, List.setIfInBounds_toArray, List.set_cons_zero, List.set_cons_succ]
            refine wpAnyH_ready (rs := [14]) (by kernel_rfl) (by simp) ?_
            refine cons_mk rfl (fun K hK => ?_) ?_
            · go_simp
              refine (HN9.out _).mono ?_; rintro e wx ⟨rfl, rfl⟩; go_simp
              refine hK.out _ _ ?_ (fun hHeld => ?_)
              · (first | exact hHeld | (obtain ⟨al, ab, ap⟩ := hHeld; exact keep_alloc al ab ap) | (obtain ⟨al, ab, ap⟩ := hHeld; exact keep_grown al ab ap hgr (by omega)))
              clear hK K
              try simp only [Act.put, List.setIfInBounds_toArray, List.set_cons_zero, List.set_cons_succ]
              refine take_mk 17 (v := ?vv18) rfl (by kernel_rfl) (by kernel_rfl) (by kernel_rfl) (fun _ _ _ h => h) (Or.inl ⟨by rfl, ?hy18⟩) (by assumption) ?_
              case hy18 => (intro wx hSw; (try dsimp only at hSw); go_simp; try with_reducible rfl)
              try simp only [Act.put, List.setIfInBounds_toArray, List.set_cons_zero, List.set_cons_succ]
              refine wpAnyH_ready (rs := [19]) (by kernel_rfl) (by simp) ?_
              refine cons_mk rfl (fun K hK => ?_) ?_
              · (rw [if_pos (by rfl)]; refine wp_store_piece 23 (.tmp 4) (.tmp 38) rfl _ _ _ _ _ _ _ rfl rfl (t := 23) (by first | exact zero_piece _ | exact zero_piece_d _) piece_size ?_; intro wq hpq hgr)
                refine hK.out _ _ ?_ (fun hHeld => ?_)
                · (first | exact hHeld | (obtain ⟨al, ab, ap⟩ := hHeld; exact keep_alloc al ab ap) | (obtain ⟨al, ab, ap⟩ := hHeld; exact keep_grown al ab ap hgr (by omega)))
                clear hK K
                try simp only [Act.put]
                refine wpAnyH_done (by kernel_rfl) ?_ _
                obtain ⟨al, ab, ap⟩ := hHeld
                go_wp2_with fail
                go_meet
                exact ⟨_, rfl, by omega, by rw [W1.out, W2.out, W3.out, WD.out] at hpq; exact hpq, ap, ab⟩
              exact AllReadyH.nil
            exact AllReadyH.nil
          exact AllReadyH.nil
        exact AllReadyH.nil
      case rest =>
        obtain ⟨b, rfl, hbl, hpb, hp3, hb3⟩ := hcut
        obtain ⟨d0, d1, d2, d3, d4, d5⟩ := hpb.cells
        clear hs3 hp2 hb2 hlt2
        have hbs := hb3.size
        by_cases hv : validB (fVol s.data.toList) (fFrag s.data.toList) (fStripe s.data.toList) (fGen s.data.toList) (fVer s.data.toList) (fData s.data.toList).length = true
        · go_wp2_with fail
          refine (enc_ref_yes _ _ _ _ _ _ _ hv).mono ?_
          rintro e w4 ⟨rfl, hb4⟩
          have hp4 := hp3.below hb4 hp3.lt
          have hpb4 := hpb.below hb4 hpb.lt
          have hb5 := hb3.trans (hb4.mono hbs)
          clear d0 d1 d2 d3 d4 d5 hp3 hpb hb3 hb4 hbs
          rw [show ({ data := (fData s.data.toList).toArray } : ByteArray).data.toList = fData s.data.toList from rfl]
          obtain ⟨d0, d1, d2, d3, d4, d5⟩ := hpb4.cells
          by_cases hE : encL (fVol s.data.toList) (fFrag s.data.toList) (fStripe s.data.toList) (fGen s.data.toList) (fVer s.data.toList) (fData s.data.toList) = s.data.toList
          · have hq : (!(encL (fVol s.data.toList) (fFrag s.data.toList) (fStripe s.data.toList) (fGen s.data.toList) (fVer s.data.toList) (fData s.data.toList) == s.toList)) = false := by
              rw [ByteArray.toList_eq, hE]; simp
            have hfm : formB s.data.toList = true := by unfold formB; rw [hv, hE]; simp
            have he := hid (err_ok _ HL.out HB.out h3 hfm)
            clear hE hfm
            go_wp2_with (refine wpList_store_row rfl 23 (.tmp 2) (.tmp 52) rfl w.heap.size #[.int .i64 (fVol s.data.toList), .int .i64 (fFrag s.data.toList), .int .i64 (fStripe s.data.toList), .int .i64 (fGen s.data.toList), .int .i64 (fVer s.data.toList), str (fData s.data.toList)] rfl rfl 23 _ hp4 piece_size rfl (piece_one _ _ _ _ _ _) ?_)
            have hb6 := below_setRow hb5 (Nat.le_refl _) #[.int .i64 (fVol s.data.toList), .int .i64 (fFrag s.data.toList), .int .i64 (fStripe s.data.toList), .int .i64 (fGen s.data.toList), .int .i64 (fVer s.data.toList), str (fData s.data.toList)]
            have hg6 := setRow_heap w4 _ _ #[.int .i64 (fVol s.data.toList), .int .i64 (fFrag s.data.toList), .int .i64 (fStripe s.data.toList), .int .i64 (fGen s.data.toList), .int .i64 (fVer s.data.toList), str (fData s.data.toList)] _ _ hp4
            generalize w4.setRow w.heap.size #[.int .i64 (fVol s.data.toList), .int .i64 (fFrag s.data.toList), .int .i64 (fStripe s.data.toList), .int .i64 (fGen s.data.toList), .int .i64 (fVer s.data.toList), str (fData s.data.toList)] = w6 at hb6 hg6 ⊢
            go_wp2
            refine bodyPost_ret (results_cell_tmp Try.results60 _ _ w.heap.size _ _ _ _ rfl hg6 Try.underlying23 rfl piece_size) rfl ⟨by rw [he.out, dec_yes _ he.out]; rfl, hb6⟩
          · have hq : (!(encL (fVol s.data.toList) (fFrag s.data.toList) (fStripe s.data.toList) (fGen s.data.toList) (fVer s.data.toList) (fData s.data.toList) == s.toList)) = true := by
              rw [ByteArray.toList_eq]; simpa using hE
            have hfm : formB s.data.toList = false := by unfold formB; rw [hv]; simpa using hE
            have he := hid (err_form _ HL.out HB.out h3 hfm)
            clear hE hfm
            go_wp2_with (refine wpList_store_row rfl 23 (.tmp 2) (.tmp 51) rfl w.heap.size zeroCells rfl rfl 23 _ hp4 piece_size rfl (piece_one _ _ _ _ _ _) ?_)
            have hb6 := below_setRow hb5 (Nat.le_refl _) zeroCells
            have hg6 := setRow_heap w4 _ _ zeroCells _ _ hp4
            generalize w4.setRow w.heap.size zeroCells = w6 at hb6 hg6 ⊢
            go_wp2
            refine bodyPost_ret (results_cell_tmp Try.results60 _ _ w.heap.size _ _ _ _ rfl hg6 Try.underlying23 rfl piece_size) rfl ⟨by rw [he.out, dec_no _ he.out (by decide)]; rfl, hb6⟩
        · have hv' : validB (fVol s.data.toList) (fFrag s.data.toList) (fStripe s.data.toList) (fGen s.data.toList) (fVer s.data.toList) (fData s.data.toList).length = false := by simpa using hv
          go_wp2_with fail
          refine (enc_ref_no _ _ _ _ _ _ _ hv').mono ?_
          rintro e w4 ⟨rfl, hb4⟩
          have hp4 := hp3.below hb4 hp3.lt
          have hb5 := hb3.trans (hb4.mono hbs)
          clear d0 d1 d2 d3 d4 d5 hp3 hpb hb3 hb4 hbs
          go_wp2_with (refine wpList_store_row rfl 23 (.tmp 2) (.tmp 51) rfl w.heap.size zeroCells rfl rfl 23 _ hp4 piece_size rfl (piece_one _ _ _ _ _ _) ?_)
          have hb6 := below_setRow hb5 (Nat.le_refl _) zeroCells
          have hg6 := setRow_heap w4 _ _ zeroCells _ _ hp4
          generalize w4.setRow w.heap.size zeroCells = w6 at hb6 hg6 ⊢
          go_wp2
          have hfm : formB s.data.toList = false := by unfold formB; rw [hv']; rfl
          have he := err_form _ HL.out HB.out h3 hfm
          refine bodyPost_ret (results_cell_tmp Try.results60 _ _ w.heap.size _ _ _ _ rfl hg6 Try.underlying23 rfl piece_size) rfl ⟨by rw [he, dec_no _ he (by decide)]; rfl, hb6⟩
    · have h3' : sumB s.data.toList = false := by simpa using h3
      have hs3 : (!(sealL (s.data.toList.take 32) == s.toList)) = true := by
        rw [ByteArray.toList_eq]
        have : sealL (s.data.toList.take 32) ≠ s.data.toList := fun e => h3 ((sealed_iff _ HL.out).1 e)
        simpa using this
      have he := hid (err_sum _ HL.out HB.out h3')
      clear h3
      go_wp2_with (refine wpList_store_row rfl 23 (.tmp 2) (.tmp 20) rfl w.heap.size zeroCells rfl rfl 23 _ hp2 piece_size rfl (piece_one _ _ _ _ _ _) ?_)
      have hb6 := below_setRow hb2 (Nat.le_refl _) zeroCells
      have hg6 := setRow_heap w2 _ _ zeroCells _ _ hp2
      generalize w2.setRow w.heap.size zeroCells = w6 at hb6 hg6 ⊢
      go_wp2
      refine bodyPost_ret (results_cell_tmp Try.results60 _ _ w.heap.size _ _ _ _ rfl hg6 Try.underlying23 rfl piece_size) rfl ⟨by rw [he.out, dec_no _ he.out (by decide)]; rfl, hb6⟩

theorem dec_ref (s : ByteArray) (w : World) (hs : s.size ≤ maxLen) :
    Calls Try.prog 60 #[.string s] w fun e w' => e = .returned (.tuple #[.agg (decCells s.data.toList), .int .i64 (errOf s.data.toList)]) ∧ Below w.heap.size w w' := by
  by_cases h36 : s.size = 36
  · exact dec_ref_36 s w h36
  · have he := err_len s.data.toList (by simpa using h36)
    rw [dec_no _ he (by decide), he]
    exact dec_ref_len s w hs h36
end Go.Proofs.Ytegekmdechcikaa
