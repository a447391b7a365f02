/- DriveFences. -/
import Derived.Test.YtiodfnjblimmbaaESleeps
namespace Go.Proofs.Ytiodfnjblimmbaa
open Go Go.RowKit Go.Sort Go.ChangeShapes Go.WideShapes Go.Deep

def intCell (i : Int) : List Value := [.int .i64 i]
theorem intCell_length (i : Int) : (intCell i).length = 1 := rfl
abbrev IntsAt (w : World) (v : Value) (l : List Int) : Prop := ArgSl w 1 v l.length (l.flatMap intCell)
theorem IntsAt.cell {w : World} {b off : Nat} {l : List Int} (h : ∀ j u, (l.flatMap intCell)[j]? = some u → w.cell? ⟨b, off + j, none⟩ = some u) (k : Nat) (hk : k < l.length) : w.cell? ⟨b, off + k, none⟩ = some (.int .i64 l[k]) := by
  have := flat_get intCell 1 intCell_length l k hk 0 (by omega)
  rw [Nat.mul_one, Nat.add_zero] at this
  exact h _ _ this
section
variable {H : Type} {enc : TypeId × Value → H} {w : World} {base : Nat} {spare : Nat → Bool} {held : Bool}
theorem int_one (fuel : Nat) (cs : List Value) (x : DataW H × List MemPlace) (h : DataW.trod enc Try.prog w base spare held fuel 3 cs = some x) : ∃ a, cs = intCell a := by
  obtain ⟨k, u0, _, _⟩ := DataW.trod_int Try.underlying3 h
  exact ⟨k, u0⟩
set_option maxRecDepth 100000 in
theorem open_intsl {r : Reach} {b0 : Nat} {v : Value} {d : DataW H} {ps : List MemPlace} (hv : Value.okWide Try.prog w r b0 39 v) (h : DataW.Trod enc Try.prog w base spare held 39 v d ps) : ∃ l, IntsAt w v l :=
  open_rows intCell 1 intCell_length (by omega) Try.underlying39 (by kernel_rfl) int_one hv h
end
/-- A drive of four slots, online, no fault pending. -/
structure Fen (S : Dv) (t : Int) : Prop where
  ok : S.Ok
  claim : S.claim = 4
  on : S.online = true
  pend : S.pend = []
  term : S.term = t
theorem Fen.no {S : Dv} {t x : Int} (h : Fen S t) (hx : x < t) : S.fence x = (106, S) ∧ ∀ s d, S.write x s d = (106, S) := by
  constructor
  · unfold Dv.fence
    rw [if_neg (by rw [h.on]; simp), if_pos (by rw [h.term]; exact hx)]
  · intro s d
    unfold Dv.write
    rw [if_neg (by rw [h.on]; simp), if_pos (by rw [h.term]; exact hx)]
theorem Fen.yes {S : Dv} {t x : Int} (h : Fen S t) (hx : t ≤ x) : ∃ T, S.fence x = (0, T) ∧ Fen T x := by
  refine ⟨{ S with term := x }, ?_, ⟨h.ok.same rfl rfl (fun _ e => e), h.claim, h.on, h.pend, rfl⟩⟩
  unfold Dv.fence
  rw [if_neg (by rw [h.on]; simp), if_neg (by rw [h.term]; omega)]
theorem Fen.write {S : Dv} {t : Int} (h : Fen S t) (s : Int) (h0 : 0 ≤ s) (h4 : s < 4) (d : ByteArray) (hd : d.size = 36) : ∃ T, S.write t s d = (0, T) ∧ Fen T t := by
  have e : S.write t s d = (0, Dv.store { S with term := t } s d) := by
    unfold Dv.write
    rw [if_neg (by rw [h.on]; simp), if_neg (by rw [h.term]; omega), if_neg (by unfold Dv.slot; rw [h.claim]; simp; omega), if_neg (by rw [hd]; simp)]
  have e2 : Dv.store { S with term := t } s d = Dv.put { S with term := t } s ⟨d, false, false⟩ := by
    have hp := h.pend
    obtain ⟨c, secs, off, dead, term, pend⟩ := S
    dsimp only at hp
    subst hp
    rfl
  have hok := h.ok.write t s d
  rw [e] at hok
  rw [e, e2]
  rw [e2] at hok
  exact ⟨_, rfl, ⟨hok, h.claim, h.on, h.pend, rfl⟩⟩
set_option maxRecDepth 100000 in
set_option maxHeartbeats 4000000 in
theorem law_fences (v : Value) (l : List Int) (x : ByteArray) (w : World) (hl : IntsAt w v l) (hx : x.size ≤ maxLen) :
    Calls Try.prog 5 #[v, .string x] w fun e w' => e = .returned (.bool true) ∧ Below w.heap.size w w' := by
  obtain ⟨_, hm, A, cap, rfl, hc⟩ := hl
  have HC := hid hc
  have HX := hid hx
  unfold maxLen at hm
  clear hc hx
  by_cases h40 : 40 < l.length
  · go_enter Try.func5, Try.ntmps5
    go_wp2_with (go_at_call 16; refine (awake26 _).mono ?_; rintro e w2 ⟨rfl, hb2⟩)
    go_ret
    exact ⟨rfl, hb2⟩
  · by_cases h100 : 100 < x.size
    · go_enter Try.func5, Try.ntmps5
      go_wp2_with (go_at_call 16; refine (awake26 _).mono ?_; rintro e w2 ⟨rfl, hb2⟩)
      go_ret
      exact ⟨rfl, hb2⟩
    · have h40' : l.length ≤ 40 := by omega
      have h100' : x.size ≤ 100 := by omega
      go_enter Try.func5, Try.ntmps5
      go_wp2_with fail
      refine (new_e 4 4 w (by omega) (by omega) (by omega)).mono ?_
      rintro e w1 ⟨a, rfl, hd1, hb1⟩
      have HA := hid (above_new (w := w) (w' := w1) (Nat.le_refl _))
      have HD := hid hd1
      have HFE := hid (show Fen (newDv 4 4) 0 from ⟨newDv_ok 4 4 (by omega) (by omega) (by omega), rfl, rfl, rfl, rfl⟩)
      clear hd1
      generalize Grow NoOwn w w1 = o at HD HA
      go_wp2_with fail
      refine (text_any x _ HX.out).mono ?_
      rintro e w2 ⟨rfl, hb2⟩
      obtain ⟨X, hX, hXs⟩ : ∃ X, secOf x = X ∧ X.size = 36 := ⟨_, rfl, secOf_size x⟩
      rw [hX]
      have HXS := hid hXs
      have HD2 := hid (HD.out.below hb2)
      have hw2 := hid (hb1.trans (hb2.mono hb1.size))
      clear hb1 hb2 HD hX hXs h100 h100' h40
      generalize newDv 4 4 = S0 at *
      go_wp2_with fail
      go_loopw [7, 8] (fun u i wr => ∃ (k : Nat) (S : Dv) (t : Int), k ≤ l.length ∧ u = .int .i64 t ∧ i = .int .i64 k ∧ Hid (Fen S t) ∧ Hid (Drv wr o a S) ∧ Hid (Below w.heap.size w wr)) (fun _ i _ => (l.length - intOf i).toNat)
      case atStart => exact ⟨0, S0, 0, Nat.zero_le _, rfl, rfl, HFE, HD2, hw2⟩
      case round =>
        clear HFE HD2 hw2
        obtain ⟨k, S, t, hk, rfl, rfl, HFE, HD, HW⟩ := hrel
        by_cases hlt : k < l.length
        · obtain ⟨bb, off, rfl, hbl, hcell⟩ := HC.out (by omega)
          have HZ := hid (fun (W : World) (hW : Below w.heap.size w W) => (hW.cell (p := ⟨bb, off + k, none⟩) hbl).trans (IntsAt.cell hcell k hlt))
          clear hcell
          have hx0 : (0 : Int) ≤ (k : Int) := by omega
          have hx1 : (k : Int) < (l.length : Int) := by omega
          generalize l[k] = y at *
          go_wp2_with fail
          refine (platters_e HD.out HFE.out.ok).mono ?_
          rintro e w3 ⟨v3, rfl, ht3, hb3⟩
          have HD3 := hid (HD.out.below hb3)
          have HW3 := hid (HW.out.trans (hb3.mono HW.out.size))
          have HT3 := hid ht3
          have HG3 := hid (show Apart (Grow NoOwn wr w3) o from fun j e1 e2 => by
            have := HD.out.under j e2
            rcases e1 with e1 | e1
            · exact e1
            · omega)
          clear HD HW hb3 ht3
          generalize Grow NoOwn wr w3 = og at *
          have z0 := HZ.out _ HW3.out
          go_wp2_with fail
          refine (fence_e HD3.out HFE.out.ok y).mono ?_
          rintro e w4 ⟨rfl, hd4, hf4⟩
          have HD4 := hid hd4
          have HW4 := hid (below_of_fr HW3.out hf4 HA.out HW3.out.size)
          have HT4 := hid (HT3.out.fr hf4 HG3.out)
          clear hd4 hf4 HD3 HW3 HT3 z0
          have hrem4 : (0 : Int) ≤ (k : Int) % 4 ∧ (k : Int) % 4 < 4 := by omega
          obtain ⟨hr0, hr4⟩ := hrem4
          by_cases hyt : y < t
          · obtain ⟨e1, e2⟩ := HFE.out.no hyt
            rw [e1] at HD4 ⊢
            have E2 := hid e2
            clear e1 e2
            have hge : ¬ t ≤ y := by omega
            by_cases hpar : (k : Int) % 2 = 1
            · have hp := beq_iff_eq.2 hpar
              clear hpar
              have z0 := HZ.out _ HW4.out
              go_wp2_with fail
              refine (write_e HD4.out HFE.out.ok y ((k : Int) % 4) X).mono ?_
              rintro e w5 ⟨rfl, hd5, hf5⟩
              rw [E2.out] at hd5 ⊢
              have HD5 := hid hd5
              have HW5 := hid (below_of_fr HW4.out hf5 HA.out HW4.out.size)
              have HT5 := hid (HT4.out.fr hf5 HG3.out)
              clear hd5 hf5 HD4 HW4 HT4 z0
              have z0 := HZ.out _ HW5.out
              go_wp2_with fail
              refine (platters_e HD5.out HFE.out.ok).mono ?_
              rintro e w6 ⟨v6, rfl, ht6, hb6⟩
              have HD6 := hid (HD5.out.below hb6)
              have HW6 := hid (HW5.out.trans (hb6.mono HW5.out.size))
              have HT6 := hid (OwnSl.below HT5.out hb6)
              have HT6b := hid ht6
              clear HD5 HW5 HT5 hb6 ht6 z0
              go_wp2_with fail
              refine (same_b HT6.out HT6b.out true (by simp)).mono ?_
              rintro e w7 ⟨rfl, hb7⟩
              have HD7 := hid (HD6.out.below hb7)
              have HW7 := hid (HW6.out.trans (hb7.mono HW6.out.size))
              clear HD6 HW6 HT6 HT6b hb7
              go_wp2_with fail
              refine (status_e HD7.out HFE.out.ok).mono ?_
              rintro e w8 ⟨rfl, hb8⟩
              have HD8 := hid (HD7.out.below hb8)
              have HW8 := hid (HW7.out.trans (hb8.mono HW7.out.size))
              rw [HFE.out.term]
              have hfld := fun W => field_term S.online S.dead t W
              have hself := int_self t
              clear HD7 HW7 hb8
              go_wp2
              go_roundw
              case rel => exact ⟨k + 1, S, t, by omega, rfl, by go_num, HFE, HD8, HW8⟩
              case measure => (simp [intOf]; try omega)
            · have hp := beq_eq_false_iff_ne.2 hpar
              clear hpar
              have HD5 := HD4
              have HW5 := HW4
              have HT5 := HT4
              clear HD4 HW4 HT4
              have z0 := HZ.out _ HW5.out
              go_wp2_with fail
              refine (platters_e HD5.out HFE.out.ok).mono ?_
              rintro e w6 ⟨v6, rfl, ht6, hb6⟩
              have HD6 := hid (HD5.out.below hb6)
              have HW6 := hid (HW5.out.trans (hb6.mono HW5.out.size))
              have HT6 := hid (OwnSl.below HT5.out hb6)
              have HT6b := hid ht6
              clear HD5 HW5 HT5 hb6 ht6 z0
              go_wp2_with fail
              refine (same_b HT6.out HT6b.out true (by simp)).mono ?_
              rintro e w7 ⟨rfl, hb7⟩
              have HD7 := hid (HD6.out.below hb7)
              have HW7 := hid (HW6.out.trans (hb7.mono HW6.out.size))
              clear HD6 HW6 HT6 HT6b hb7
              go_wp2_with fail
              refine (status_e HD7.out HFE.out.ok).mono ?_
              rintro e w8 ⟨rfl, hb8⟩
              have HD8 := hid (HD7.out.below hb8)
              have HW8 := hid (HW7.out.trans (hb8.mono HW7.out.size))
              rw [HFE.out.term]
              have hfld := fun W => field_term S.online S.dead t W
              have hself := int_self t
              clear HD7 HW7 hb8
              go_wp2
              go_roundw
              case rel => exact ⟨k + 1, S, t, by omega, rfl, by go_num, HFE, HD8, HW8⟩
              case measure => (simp [intOf]; try omega)
          · obtain ⟨T, e1, hFT⟩ := HFE.out.yes (show t ≤ y by omega)
            rw [e1] at HD4 ⊢
            have HFT := hid hFT
            clear e1 hFT
            have hge : t ≤ y := by omega
            by_cases hpar : (k : Int) % 2 = 1
            · have hp := beq_iff_eq.2 hpar
              clear hpar
              obtain ⟨U, e2, hFU⟩ := HFT.out.write ((k : Int) % 4) hr0 hr4 X HXS.out
              have z0 := HZ.out _ HW4.out
              have E2 := hid e2
              have HFU := hid hFU
              clear e2 hFU
              go_wp2_with fail
              refine (write_e HD4.out HFT.out.ok y ((k : Int) % 4) X).mono ?_
              rintro e w5 ⟨rfl, hd5, hf5⟩
              rw [E2.out] at hd5 ⊢
              have HD5 := hid hd5
              have HW5 := hid (below_of_fr HW4.out hf5 HA.out HW4.out.size)
              clear hd5 hf5 HD4 HW4 HT4 z0 HFT HFE
              have z0 := HZ.out _ HW5.out
              go_wp2_with fail
              refine (status_e HD5.out HFU.out.ok).mono ?_
              rintro e w8 ⟨rfl, hb8⟩
              have HD8 := hid (HD5.out.below hb8)
              have HW8 := hid (HW5.out.trans (hb8.mono HW5.out.size))
              rw [HFU.out.term]
              have hfld := fun (x1 x2 : Bool) W => field_term x1 x2 y W
              have hself := int_self y
              clear HD5 HW5 hb8 z0
              go_wp2
              go_roundw
              case rel => exact ⟨k + 1, _, y, by omega, rfl, by go_num, HFU, HD8, HW8⟩
              case measure => (simp [intOf]; try omega)
            · have hp := beq_eq_false_iff_ne.2 hpar
              clear hpar
              have HD5 := HD4
              have HW5 := HW4
              have HFU := HFT
              clear HD4 HW4 HT4 HFT HFE
              have z0 := HZ.out _ HW5.out
              go_wp2_with fail
              refine (status_e HD5.out HFU.out.ok).mono ?_
              rintro e w8 ⟨rfl, hb8⟩
              have HD8 := hid (HD5.out.below hb8)
              have HW8 := hid (HW5.out.trans (hb8.mono HW5.out.size))
              rw [HFU.out.term]
              have hfld := fun (x1 x2 : Bool) W => field_term x1 x2 y W
              have hself := int_self y
              clear HD5 HW5 hb8 z0
              go_wp2
              go_roundw
              case rel => exact ⟨k + 1, _, y, by omega, rfl, by go_num, HFU, HD8, HW8⟩
              case measure => (simp [intOf]; try omega)
        · have HW2 := HW
          clear HD HFE HW
          go_wp2_with (go_at_call 16; refine (awake26 _).mono ?_; rintro e w2 ⟨rfl, hb2⟩)
          go_ret
          exact ⟨rfl, HW2.out.trans (hb2.mono HW2.out.size)⟩
end Go.Proofs.Ytiodfnjblimmbaa
