/- DriveMedia. -/
import Derived.Test.YtiodfnjblimmbaaEText
namespace Go.Proofs.Ytiodfnjblimmbaa
open Go Go.RowKit Go.Sort

theorem write_ok {S : Dv} {t s : Int} {d : ByteArray} (ho : S.online = true) (ht : ¬ t < S.term) (hs : S.slot s = true) (hd : d.size = 36) : S.write t s d = (0, Dv.store { S with term := t } s d) := by
  unfold Dv.write
  rw [if_neg (by simp [ho]), if_neg ht, if_neg (by simp [hs]), if_neg (by simp [hd])]
theorem read_ok {S : Dv} {s : Int} (ho : S.online = true) (hs : S.slot s = true) (hu : (S.get s).un = false) : S.read s = ((S.get s).data, 0) := by
  unfold Dv.read
  rw [if_neg (by simp [ho]), if_neg (by simp [hs]), if_neg (by simp [hu])]
theorem slot_in {S : Dv} {s : Int} (h0 : 0 ≤ s) (h1 : s < S.claim) : S.slot s = true := by
  unfold Dv.slot; simp [h0, h1]
theorem at_put {S : Dv} (s s2 : Int) (x : Sec) : (S.put s x).at_ s2 = S.at_ s2 := by unfold Dv.at_ Dv.put; simp
theorem get_put {S : Dv} (h : S.Ok) (s : Int) (x : Sec) : (S.put s x).get s = x := by
  unfold Dv.get
  rw [at_put]
  have := S.at_lt h s
  unfold Dv.put
  rw [List.getD_eq_getElem?_getD, List.getElem?_set_self this]; rfl

theorem media_plain (X Y : ByteArray) (s : Int) (h0 : 0 ≤ s) (h1 : s < 5) (hX : X.size = 36) (hY : Y.size = 36) :
    ∃ S1 S2 S3 : Dv, (newDv 5 5).write 0 s X = (0, S1) ∧ S1.inject ⟨7, s, 0, 0, 0⟩ = (0, S2) ∧ S2.read s = (⟨#[]⟩, 107) ∧ S2.platters.length = 5 ∧ S2.platters[s.toNat]? = some ⟨#[]⟩ ∧ S2.write 0 s Y = (0, S3) ∧ S3.read s = (Y, 0) ∧ S1.pend = [] := by
  have ho := newDv_ok 5 5 (by decide) (by decide) (by decide)
  have w1 := write_ok (S := newDv 5 5) (t := 0) (s := s) (d := X) rfl (by decide) (slot_in h0 h1) hX
  have o1 : (Dv.put { newDv 5 5 with term := 0 } s ⟨X, false, false⟩).Ok := Dv.Ok.put (S := { newDv 5 5 with term := 0 }) ho _ _ hX
  have e1 : Dv.store { newDv 5 5 with term := 0 } s X = Dv.put { newDv 5 5 with term := 0 } s ⟨X, false, false⟩ := rfl
  rw [e1] at w1
  obtain ⟨S1, hS1⟩ : ∃ S, Dv.put { newDv 5 5 with term := 0 } s ⟨X, false, false⟩ = S := ⟨_, rfl⟩
  have p1 : S1.claim = 5 ∧ S1.off = false ∧ S1.dead = false ∧ S1.term = 0 ∧ S1.pend = [] ∧ S1.secs.length = 5 := by subst hS1; exact ⟨rfl, rfl, rfl, rfl, rfl, by simp [Dv.put, newDv]⟩
  obtain ⟨pc, po, pd, pt, pp, pl⟩ := p1
  rw [hS1] at w1 o1
  have hv : Dv.valid S1.claim ⟨7, s, 0, 0, 0⟩ = true := by unfold Dv.valid; rw [pc]; simp [h0, h1]
  have i2 : S1.inject ⟨7, s, 0, 0, 0⟩ = (0, S1.put s { S1.get s with un := true }) := by
    unfold Dv.inject; rw [hv, pd]; simp [Dv.happen]
  have o2 : (S1.put s { S1.get s with un := true }).Ok := o1.put _ _ (S1.get_size o1 s)
  have g2 := get_put o1 s { S1.get s with un := true }
  have at2 : (S1.put s { S1.get s with un := true }).at_ s = s.toNat := by
    rw [at_put]; unfold Dv.at_; rw [pl]; show (s % 5).toNat = _; rw [Int.emod_eq_of_lt h0 h1]
  have f2 : (S1.put s { S1.get s with un := true }).claim = 5 ∧ (S1.put s { S1.get s with un := true }).off = false ∧ (S1.put s { S1.get s with un := true }).dead = false ∧ (S1.put s { S1.get s with un := true }).term = 0 ∧ (S1.put s { S1.get s with un := true }).pend = [] ∧ (S1.put s { S1.get s with un := true }).secs.length = 5 := ⟨pc, po, pd, pt, pp, by simp [Dv.put, pl]⟩
  obtain ⟨S2, hS2⟩ : ∃ S, S1.put s { S1.get s with un := true } = S := ⟨_, rfl⟩
  rw [hS2] at i2 o2 g2 f2 at2
  obtain ⟨qc, qo, qd, qt, qp, ql⟩ := f2
  have on2 : S2.online = true := by unfold Dv.online; rw [qo, qd]; rfl
  have sl2 : S2.slot s = true := slot_in h0 (by rw [qc]; exact h1)
  have r2 : S2.read s = (⟨#[]⟩, 107) := by
    unfold Dv.read
    rw [if_neg (by simp [on2]), if_neg (by simp [sl2]), if_pos (by rw [g2])]
  have pla : S2.platters = S2.secs.map fun s => if s.un = true then ⟨#[]⟩ else s.data := by unfold Dv.platters; rw [if_neg (by simp [qd])]
  have w3 := write_ok (S := S2) (t := 0) (s := s) (d := Y) on2 (by rw [qt]; decide) sl2 hY
  have e3 : Dv.store { S2 with term := 0 } s Y = Dv.put { S2 with term := 0 } s ⟨Y, false, false⟩ := by unfold Dv.store; simp only [qp]
  rw [e3] at w3
  have o2' : Dv.Ok { S2 with term := 0 } := o2.same rfl rfl (fun _ e => e)
  have g3 := get_put o2' s ⟨Y, false, false⟩
  have r3 := read_ok (S := Dv.put { S2 with term := 0 } s ⟨Y, false, false⟩) (s := s) (by show (!S2.dead && !S2.off) = true; rw [qo, qd]; rfl) (slot_in h0 (by show s < S2.claim; rw [qc]; exact h1)) (by rw [g3])
  rw [g3] at r3
  refine ⟨S1, S2, _, w1, i2, r2, by rw [pla]; simp [ql], ?_, w3, r3, pp⟩
  have hlt := S2.at_lt o2 s
  rw [pla, List.getElem?_map, ← at2, List.getElem?_eq_getElem hlt, ← S2.get_eq o2 s, g2]
  rfl

theorem Texts.at_ {w : World} {o : Own} {v : Value} {l : List ByteArray} (h : Texts w o v l) (k : Nat) (x : ByteArray) (hk : l[k]? = some x) : ∃ g off c, v = .slice (some ⟨g, off, none⟩) l.length c ∧ w.cell? ⟨g, off + k, none⟩ = some (.string x) := by
  obtain ⟨hlt, rfl⟩ := List.getElem?_eq_some_iff.1 hk
  obtain ⟨A, c, rfl, _, hc⟩ := h.form
  obtain ⟨g, off, rfl, hc2⟩ := hc (by omega)
  exact ⟨g, off, c, rfl, hc2 k hlt⟩
set_option maxRecDepth 100000 in
set_option maxHeartbeats 1000000 in
theorem law_media (x y : ByteArray) (slot : Int) (w : World) (hx : x.size ≤ maxLen) (hy : y.size ≤ maxLen) :
    Calls Try.prog 9 #[.string x, .string y, .int .i64 slot] w fun e w' => e = .returned (.bool true) ∧ Below w.heap.size w w' := by
  have HX := hid hx
  have HY := hid hy
  clear hx hy
  by_cases hlong : 100 < x.size ∨ 100 < y.size
  · rcases hlong with h1 | h1
    · go_enter Try.func9, Try.ntmps9
      go_wp2_with (go_at_call 16; refine (awake26 _).mono ?_; rintro e w2 ⟨rfl, hb2⟩)
      go_ret
      exact ⟨rfl, hb2⟩
    · by_cases h2 : 100 < x.size
      · go_enter Try.func9, Try.ntmps9
        go_wp2_with (go_at_call 16; refine (awake26 _).mono ?_; rintro e w2 ⟨rfl, hb2⟩)
        go_ret
        exact ⟨rfl, hb2⟩
      · go_enter Try.func9, Try.ntmps9
        go_wp2_with (go_at_call 16; refine (awake26 _).mono ?_; rintro e w2 ⟨rfl, hb2⟩)
        go_ret
        exact ⟨rfl, hb2⟩
  · have hx100 : x.size ≤ 100 := by omega
    have hy100 : y.size ≤ 100 := by omega
    clear hlong
    go_enter Try.func9, Try.ntmps9
    go_wp2_with fail
    refine (new_e 5 5 w (by omega) (by omega) (by omega)).mono ?_
    rintro e w1 ⟨a, rfl, hd1, hb1⟩
    have HA := hid (above_new (w := w) (w' := w1) (Nat.le_refl _))
    have HD := hid hd1
    clear hd1
    generalize Grow NoOwn w w1 = o at HD HA
    go_wp2_with fail
    refine (within_any _ _ _ (by omega) (by omega)).mono ?_
    rintro e w2 ⟨rfl, rfl⟩
    have e1 := Int.emod_nonneg slot (show (5 : Int) ≠ 0 by omega)
    have e2 := Int.emod_lt_of_pos slot (show (0 : Int) < 5 by omega)
    generalize slot % 5 = s at *
    go_wp2_with fail
    refine (text_any x _ HX.out).mono ?_
    rintro e w2 ⟨rfl, hb2⟩
    obtain ⟨X, hX, hXs⟩ : ∃ X, secOf x = X ∧ X.size = 36 := ⟨_, rfl, secOf_size x⟩
    rw [hX]
    go_wp2_with fail
    refine (text_any y _ HY.out).mono ?_
    rintro e w3 ⟨rfl, hb3⟩
    obtain ⟨Y, hY, hYs⟩ : ∃ Y, secOf y = Y ∧ Y.size = 36 := ⟨_, rfl, secOf_size y⟩
    rw [hY]
    obtain ⟨S1, S2, S3, p1, p2, p3, p4, p5, p6, p7, p8⟩ := media_plain X Y s e1 e2 hXs hYs
    have ok0 := newDv_ok 5 5 (by decide) (by decide) (by decide)
    have ok1 : S1.Ok := by have := ok0.write 0 s X; rw [p1] at this; exact this
    have ok2 : S2.Ok := by have := ok1.inject ⟨7, s, 0, 0, 0⟩; rw [p2] at this; exact this
    have ok3 : S3.Ok := by have := ok2.write 0 s Y; rw [p6] at this; exact this
    have OK := hid (And.intro ok0 (And.intro ok1 (And.intro ok2 ok3)))
    have P := hid (And.intro p1 (And.intro p2 (And.intro p3 (And.intro p4 (And.intro p5 (And.intro p6 (And.intro p7 p8)))))))
    have hw3 := (hb1.trans (hb2.mono hb1.size)).trans (hb3.mono (Nat.le_trans hb1.size hb2.size))
    have HD3 := hid ((HD.out.below hb2).below hb3)
    clear hb1 hb2 hb3 p1 p2 p3 p4 p5 p6 p7 p8 ok0 ok1 ok2 ok3 hX hY HD HX HY
    generalize newDv 5 5 = S0 at *
    go_wp2_with fail
    refine (write_e HD3.out OK.out.1 0 s X).mono ?_
    rintro e w4 ⟨rfl, hd4, hf4⟩
    rw [P.out.1] at hd4
    rw [P.out.1]
    have hw4 := below_of_fr hw3 hf4 HA.out hw3.size
    have HD4 := hid hd4
    clear hd4 hf4 HD3 hw3
    go_wp2_with fail
    refine (inject_e (S := S1) HD4.out OK.out.2.1 ⟨7, s, 0, 0, 0⟩ (by rw [P.out.2.2.2.2.2.2.2]; decide)).mono ?_
    rintro e w5 ⟨rfl, hd5, hf5⟩
    rw [P.out.2.1] at hd5
    rw [P.out.2.1]
    have hw5 := below_of_fr hw4 hf5 HA.out hw4.size
    have HA5 := hid (hf5.mv.above HA.out hw4.size)
    generalize Grow o w4 w5 = o5 at hd5 HA5
    have HD5 := hid hd5
    clear hd5 hf5 HD4 hw4 HA
    go_wp2_with fail
    refine (read_e HD5.out OK.out.2.2.1 s).mono ?_
    rintro e w6 ⟨rfl, n6, rfl⟩
    rw [P.out.2.2.1]
    have HD6 := hid (HD5.out.below (below_drew w5 n6))
    have hw6 := hw5.trans ((below_drew w5 n6).mono hw5.size)
    clear HD5 hw5
    go_wp2_with fail
    refine (platters_e HD6.out OK.out.2.2.1).mono ?_
    rintro e w7 ⟨v, rfl, ht7, hb7⟩
    have HD7 := hid (HD6.out.below hb7)
    have hw7 := hw6.trans (hb7.mono hw6.size)
    obtain ⟨g, off, c, rfl, hc7⟩ := Texts.at_ ht7 _ _ P.out.2.2.2.2.1
    rw [P.out.2.2.2.1]
    clear HD6 hw6 hb7 ht7
    obtain ⟨k, rfl⟩ := Int.eq_ofNat_of_zero_le e1
    rw [Int.toNat_natCast] at hc7
    go_wp2_with fail
    refine (write_e HD7.out OK.out.2.2.1 0 k Y).mono ?_
    rintro e w8 ⟨rfl, hd8, hf8⟩
    rw [P.out.2.2.2.2.2.1] at hd8
    rw [P.out.2.2.2.2.2.1]
    have hw8 := below_of_fr hw7 hf8 HA5.out hw7.size
    have HD8 := hid hd8
    clear hd8 hf8 HD7 hw7 hc7
    go_wp2_with fail
    refine (read_e HD8.out OK.out.2.2.2 k).mono ?_
    rintro e w9 ⟨rfl, n9, rfl⟩
    rw [P.out.2.2.2.2.2.2.1]
    have hw9 := hw8.trans ((below_drew w8 n9).mono hw8.size)
    clear HD8 hw8
    go_wp2_with (go_at_call 16; refine (awake26 _).mono ?_; rintro e wA ⟨rfl, hbA⟩)
    go_ret
    exact ⟨rfl, hw9.trans (hbA.mono hw9.size)⟩
end Go.Proofs.Ytiodfnjblimmbaa
