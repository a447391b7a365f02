/- The walks of the laws SectorEncodes, SectorSums, SectorBack, SectorOnly. -/
import Derived.Test.YtmgghigongjjcaaLawA
namespace Go.Proofs.Ytmgghigongjjcaa
open Go.RowKit Go.Sort

/-- What Encode answers at any piece. -/
def encS (v f s g ve : Int) (d : ByteArray) : ByteArray := if validB v f s g ve d.size = true then ⟨(encL v f s g ve d.data.toList).toArray⟩ else ⟨#[]⟩
def encE (v f s g ve : Int) (d : ByteArray) : Int := if validB v f s g ve d.size = true then 0 else 100
theorem enc_prog_any (v f s g ve : Int) (d : ByteArray) (w : World) :
    Calls Try.prog 16 #[.agg #[.int .i64 v, .int .i64 f, .int .i64 s, .int .i64 g, .int .i64 ve, .string d]] w fun e w' => e = .returned (.tuple #[.string (encS v f s g ve d), .int .i64 (encE v f s g ve d)]) ∧ Below w.heap.size w w' := by
  by_cases h : validB v f s g ve d.size = true
  · have := enc_prog_yes v f s g ve d w h
    simpa [encS, encE, h] using this
  · have := enc_prog_no v f s g ve d w (by simpa using h)
    simpa [encS, encE, h] using this
theorem enc_ref_any (v f s g ve : Int) (d : ByteArray) (w : World) :
    Calls Try.prog 17 #[.agg #[.int .i64 v, .int .i64 f, .int .i64 s, .int .i64 g, .int .i64 ve, .string d]] w fun e w' => e = .returned (.tuple #[.string (encS v f s g ve d), .int .i64 (encE v f s g ve d)]) ∧ Below w.heap.size w w' := by
  by_cases h : validB v f s g ve d.size = true
  · have := enc_ref_yes v f s g ve d w h
    simpa [encS, encE, h] using this
  · have := enc_ref_no v f s g ve d w (by simpa using h)
    simpa [encS, encE, h] using this

set_option maxHeartbeats 2000000 in
theorem law_encodes (v f s g ve : Int) (d : ByteArray) (w : World) (hd : d.size ≤ maxLen) :
    Calls Try.prog 4 #[.agg #[.int .i64 v, .int .i64 f, .int .i64 s, .int .i64 g, .int .i64 ve, .string d]] w fun e w' => e = .returned (.bool true) ∧ Below w.heap.size w w' := by
  have HD := hid hd
  clear hd
  go_enter Try.func4, Try.ntmps4
  go_wp2_with fail
  refine (near_b _ _ _ _ _ _ _ HD.out).mono ?_
  rintro e w1 ⟨rfl, hb1⟩
  have hp1 := (piece_new w v f s g ve d 23).below hb1 (by simp)
  have hw1 : Below w.heap.size w w1 := ((Below.refl _ _).alloc (Nat.le_refl _) _).trans (hb1.mono (by simp))
  clear hb1
  generalize v % 12 = v' at *
  generalize f % 8 = f' at *
  generalize s % 4 = s' at *
  generalize 1 + g % 1099511627775 = g' at *
  generalize 1 + ve % 1099511627775 = ve' at *
  obtain ⟨c0, c1, c2, c3, c4, c5⟩ := hp1.cells
  have hl1 := hp1.lt
  go_wp2_with fail
  refine (enc_prog_any _ _ _ _ _ _ _).mono ?_
  rintro e w2 ⟨rfl, hb2⟩
  have hp2 := (hp1.alloc (.cells #[.int .i64 v', .int .i64 f', .int .i64 s', .int .i64 g', .int .i64 ve', .string ⟨(nearB d).toArray⟩] 23)).below hb2 (by simp; omega)
  have hq2 := (piece_new w1 v' f' s' g' ve' ⟨(nearB d).toArray⟩ 23).below hb2 (by simp)
  have hw2 : Below w.heap.size w w2 := (hw1.alloc (Nat.le_of_lt hl1) _).trans (hb2.mono (by simp; omega))
  clear hb2 c0 c1 c2 c3 c4 c5 hp1
  obtain ⟨c0, c1, c2, c3, c4, c5⟩ := hp2.cells
  go_wp2_with fail
  refine (enc_ref_any _ _ _ _ _ _ _).mono ?_
  rintro e w3 ⟨rfl, hb3⟩
  have hq3 := hq2.below hb3 hq2.lt
  have hw3 := hw2.trans (hb3.mono hw2.size)
  clear hb3 c0 c1 c2 c3 c4 c5 hp2 hq2
  obtain ⟨c0, c1, c2, c3, c4, c5⟩ := hq3.cells
  go_wp2_with fail
  refine (enc_prog_any _ _ _ _ _ _ _).mono ?_
  rintro e w4 ⟨rfl, hb4⟩
  have hq4 := hq3.below hb4 hq3.lt
  have hw4 := hw3.trans (hb4.mono hw3.size)
  clear hb4 c0 c1 c2 c3 c4 c5 hq3
  obtain ⟨c0, c1, c2, c3, c4, c5⟩ := hq4.cells
  go_wp2_with fail
  refine (enc_ref_any _ _ _ _ _ _ _).mono ?_
  rintro e w5 ⟨rfl, hb5⟩
  have hw5 := hw4.trans (hb5.mono hw4.size)
  go_wp2_with fail
  refine (awake_any _).mono ?_
  rintro e w6 ⟨rfl, hb6⟩
  have hw6 := hw5.trans (hb6.mono hw5.size)
  clear hb5 hb6 c0 c1 c2 c3 c4 c5 hq4
  go_wp2
  go_ret
  exact ⟨rfl, hw6⟩

set_option maxHeartbeats 1000000 in
theorem law_sums (s : ByteArray) (w : World) (hs : s.size ≤ maxLen) :
    Calls Try.prog 6 #[.string s] w fun e w' => e = .returned (.bool true) ∧ Below w.heap.size w w' := by
  have HS := hid hs
  unfold maxLen at hs
  by_cases h : 400 < s.size
  · go_enter Try.func6, Try.ntmps6
    go_wp2_with (go_at_call 12; refine (awake_any _).mono ?_; rintro e w' ⟨rfl, hb⟩)
    go_ret
    exact ⟨rfl, hb⟩
  · go_enter Try.func6, Try.ntmps6
    go_wp2_with fail
    refine (awake_any _).mono ?_
    rintro e w1 ⟨rfl, hb⟩
    go_wp2_with fail
    refine (sum_prog _ _ HS.out).mono ?_
    rintro e w2 ⟨rfl, rfl⟩
    go_wp2_with fail
    refine (sum_ref _ _ HS.out).mono ?_
    rintro e w2 ⟨rfl, rfl⟩
    go_wp2
    go_ret
    exact ⟨rfl, hb⟩

set_option maxHeartbeats 2000000 in
theorem law_back (v f s g ve : Int) (d : ByteArray) (w : World) (hd : d.size ≤ maxLen) :
    Calls Try.prog 7 #[.agg #[.int .i64 v, .int .i64 f, .int .i64 s, .int .i64 g, .int .i64 ve, .string d]] w fun e w' => e = .returned (.bool true) ∧ Below w.heap.size w w' := by
  have hnv := near_valid v f s g ve (nearB d).length (nearB_length d)
  have HD := hid hd
  clear hd
  go_enter Try.func7, Try.ntmps7
  go_wp2_with fail
  refine (near_b _ _ _ _ _ _ _ HD.out).mono ?_
  rintro e w1 ⟨rfl, hb1⟩
  have hw1 : Below w.heap.size w w1 := ((Below.refl _ _).alloc (Nat.le_refl _) _).trans (hb1.mono (by simp))
  have hl1 := hw1.size
  clear hb1 HD
  generalize v % 12 = v' at *
  generalize f % 8 = f' at *
  generalize s % 4 = s' at *
  generalize 1 + g % 1099511627775 = g' at *
  generalize 1 + ve % 1099511627775 = ve' at *
  have HDE := hid (dec_enc_cells v' f' s' g' ve' (nearB d) hnv)
  have HLE := hid (encL_length v' f' s' g' ve' (nearB d) (nearB_length d))
  have HNV := hid hnv
  clear hnv
  go_wp2_with fail
  refine (enc_prog_yes _ _ _ _ _ _ _ HNV.out).mono ?_
  rintro e w2 ⟨rfl, hb2⟩
  rw [show ({ data := (nearB d).toArray } : ByteArray).data.toList = nearB d from rfl]
  have hq2 := (piece_new w1 v' f' s' g' ve' ⟨(nearB d).toArray⟩ 23).below hb2 (by simp)
  have hw2 : Below w.heap.size w w2 := (hw1.alloc hl1 _).trans (hb2.mono (by simp; omega))
  clear hb2 HNV
  generalize encL v' f' s' g' ve' (nearB d) = E at *
  have hsz : (⟨E.toArray⟩ : ByteArray).size ≤ maxLen := by
    have : (⟨E.toArray⟩ : ByteArray).size = 36 := HLE.out
    unfold maxLen; omega
  have HSZ := hid hsz
  clear hsz HLE
  go_wp2_with fail
  refine (dec_prog ⟨E.toArray⟩ _ HSZ.out).mono ?_
  rintro e w3 ⟨rfl, hb3⟩
  rw [show ({ data := E.toArray } : ByteArray).data.toList = E from rfl, HDE.out.1, HDE.out.2]
  have hq3 := hq2.below hb3 hq2.lt
  have hw3 := hw2.trans (hb3.mono hw2.size)
  have hl3 := hw3.size
  have hlq := hq3.lt
  clear hb3 hq2
  go_wp2_with fail
  refine (awake_any _).mono ?_
  rintro e w4 ⟨rfl, hb4⟩
  have hq4 := (hq3.alloc (.cells #[.int .i64 v', .int .i64 f', .int .i64 s', .int .i64 g', .int .i64 ve', str (nearB d)] 23)).below hb4 (by simp; omega)
  have hr4 := (piece_new w3 v' f' s' g' ve' ⟨(nearB d).toArray⟩ 23).below hb4 (by simp)
  have hw4 : Below w.heap.size w w4 := (hw3.alloc hl3 _).trans (hb4.mono (by simp; omega))
  obtain ⟨c0, c1, c2, c3, c4, c5⟩ := hq4.cells
  obtain ⟨r0, r1, r2, r3, r4, r5⟩ := hr4.cells
  clear hb4 HDE HSZ
  go_wp2
  go_ret
  exact ⟨rfl, hw4⟩

set_option maxHeartbeats 2000000 in
theorem law_only (s : ByteArray) (w : World) (hs : s.size ≤ maxLen) :
    Calls Try.prog 8 #[.string s] w fun e w' => e = .returned (.bool true) ∧ Below w.heap.size w w' := by
  have HS := hid hs
  unfold maxLen at hs
  by_cases h : errOf s.data.toList = 0
  · obtain ⟨h36, hv, hE⟩ := enc_dec _ h
    have HV := hid hv
    have HE := hid hE
    have H0 := hid h
    clear hv hE h
    have hsz : s.size = 36 := by simpa using h36
    clear h36
    go_enter Try.func8, Try.ntmps8
    go_wp2_with fail
    refine (dec_prog s _ HS.out).mono ?_
    rintro e w1 ⟨rfl, hb1⟩
    rw [H0.out, dec_yes _ H0.out]
    go_wp2_with fail
    refine (enc_prog_yes _ _ _ _ _ _ _ HV.out).mono ?_
    rintro e w2 ⟨rfl, hb2⟩
    rw [show ({ data := (fData s.data.toList).toArray } : ByteArray).data.toList = fData s.data.toList from rfl, HE.out]
    have hq2 := (piece_new w1 (fVol s.data.toList) (fFrag s.data.toList) (fStripe s.data.toList) (fGen s.data.toList) (fVer s.data.toList) ⟨(fData s.data.toList).toArray⟩ 23).below hb2 (by simp)
    have hw2 : Below w.heap.size w w2 := (hb1.alloc hb1.size _).trans (hb2.mono (by simp; have := hb1.size; omega))
    clear hb1 hb2
    go_wp2_with fail
    refine (awake_any _).mono ?_
    rintro e w3 ⟨rfl, hb3⟩
    have hq3 := hq2.below hb3 hq2.lt
    have hw3 := hw2.trans (hb3.mono hw2.size)
    obtain ⟨c0, c1, c2, c3, c4, c5⟩ := hq3.cells
    clear hb3
    have hts : (s.data.toList == s.toList) = true := by rw [ByteArray.toList_eq]; simp
    go_wp2_with fail
    refine (valid_prog_b _ _ _ _ _ _ _).mono ?_
    rintro e w4 ⟨rfl, hb4⟩
    rw [show ({ data := (fData s.data.toList).toArray } : ByteArray).size = (fData s.data.toList).length from rfl, HV.out]
    have hw4 := hw3.trans (hb4.mono hw3.size)
    go_wp2
    go_ret
    exact ⟨rfl, hw4⟩
  · have HN := hid (dec_no s.data.toList rfl h)
    have hn : (errOf s.data.toList != 0) = true := by simpa using h
    clear h
    go_enter Try.func8, Try.ntmps8
    go_wp2_with fail
    refine (dec_prog s _ HS.out).mono ?_
    rintro e w1 ⟨rfl, hb1⟩
    rw [HN.out]
    unfold zeroCells
    have hl1 := hb1.size
    go_wp2_with fail
    refine (awake_any _).mono ?_
    rintro e w2 ⟨rfl, hb2⟩
    have hq2 := (zero_piece w1).below hb2 (by simp)
    have hw2 : Below w.heap.size w w2 := (hb1.alloc hl1 _).trans (hb2.mono (by simp; omega))
    obtain ⟨c0, c1, c2, c3, c4, c5⟩ := hq2.cells
    clear hb2
    go_wp2
    go_ret
    exact ⟨rfl, hw2⟩
end Go.Proofs.Ytmgghigongjjcaa
