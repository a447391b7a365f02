/- Capacity of the reference. -/
import Derived.Test.YtegekmdechcikaaS16
namespace Go.Proofs.Ytegekmdechcikaa
open Go Go.RowKit Go.Sort

/-- The reference's drive in the course of a call. -/
structure RefG (w : World) (o : Own) (a : Nat) (T : Dv) (wr : World) : Prop where
  ref : Ref wr (Grow o w wr) a T
  fr : Fr o w wr
  un : Under w o
theorem Ref.mono {w : World} {o o2 : Own} {a : Nat} {S : Dv} (h : Ref w o a S) (hm : ∀ k, o k → o2 k) (hu : Under w o2) : Ref w o2 a S := by
  obtain ⟨R, ⟨p, b, c, pv, h⟩, hr⟩ := h
  exact ⟨R, ⟨p, b, c, pv, h.mono hm hu⟩, hr⟩
theorem RefG.start {w : World} {o : Own} {a : Nat} {S : Dv} (h : Ref w o a S) : RefG w o a S w := ⟨h.mono (fun _ e => .inl e) ((Fr.refl o w).under h.under), Fr.refl _ _, h.under⟩
theorem RefG.step {w wr w' : World} {o : Own} {a : Nat} {S T : Dv} (h : RefG w o a S wr) (h1 : Ref w' (Grow (Grow o w wr) wr w') a T) (f : Fr (Grow o w wr) wr w') : RefG w o a T w' := by
  have hf : Fr o w w' := h.fr.trans (fun k e => by rcases e with e | e; exact .inl e; exact .inr e.1) f
  refine ⟨h1.mono (fun k e => ?_) (hf.under h.un), hf, h.un⟩
  rcases e with e | e
  · rcases e with e | e
    · exact .inl e
    · exact .inr ⟨e.1, Nat.lt_of_lt_of_le e.2 f.size⟩
  · exact .inr ⟨Nat.le_trans h.fr.size e.1, e.2⟩
theorem RefG.then {w wr w' : World} {o : Own} {a : Nat} {S : Dv} (h : RefG w o a S wr) (hb : Below wr.heap.size wr w') : RefG w o a S w' :=
  h.step ((h.ref.below hb).mono (fun _ e => .inl e) ((Fr.ofBelow hb).under h.ref.under)) (Fr.ofBelow hb)
section
variable {w : World} {o : Own} {a : Nat} {S : Dv}
set_option maxRecDepth 100000 in
set_option maxHeartbeats 4000000 in
theorem capacity_ref (h : Ref w o a S) (hS : S.Ok) (hn : S.pend.length ≤ 1000000) (t : Int) :
    Calls Try.prog 30 #[.pointer (some ⟨a, 0, none⟩), .int .i64 t] w fun e w' => e = .returned (.tuple #[.int .i64 (capOf S t).1, .int .i64 (capOf S t).2.1]) ∧ RefG w o a (capOf S t).2.2 w' := by
  have HH := hid (RefG.start h)
  have HS := hid (And.intro hS hn)
  have hc0 : 1 ≤ S.claim := by have := hS.one; have := hS.le; omega
  have hc1 := hS.top
  obtain ⟨z0, z2⟩ := h.slots_on
  clear h hS hn
  cases ho : S.online
  case false =>
    have hq := capOf_off (t := t) ho
    rw [hq]
    rw [ho] at z2
    clear ho hq
    go_enter Try.func30, Try.ntmps30
    go_wp2
    go_ret2
    exact ⟨rfl, HH.out⟩
  case true =>
    have HO := hid ho
    rw [ho] at z2
    clear ho
    obtain ⟨n, hn⟩ := Int.eq_ofNat_of_zero_le (show 0 ≤ S.claim by omega)
    have hn0 : 1 ≤ n := by omega
    have hn1 : n ≤ 128 := by omega
    have HN := hid hn
    rw [hn] at z0
    clear hn hc0 hc1
    obtain ⟨r, hr⟩ : ∃ r, capOf S t = r := ⟨_, rfl⟩
    have HR := hid hr
    rw [hr]
    clear hr
    go_enter Try.func30, Try.ntmps30
    go_wp2_with fail
    go_loopw [6] (fun i wr => ∃ (k : Nat) (T : Dv), k ≤ n ∧ i = .int .i64 ((k : Int) - 1) ∧ Hid (capW S t n = capW T t k) ∧ Hid (T.Ok ∧ T.pend.length ≤ 1000000) ∧ Hid (T.claim = n) ∧ Hid (RefG w o a T wr)) (fun i _ => (intOf i + 1).toNat)
    case atStart => exact ⟨n, S, Nat.le_refl _, rfl, rfl, HS, HN, HH⟩
    case round =>
      clear HH z0 z2
      obtain ⟨k, T, hk, rfl, HW, HT, HC, HD⟩ := hrel
      cases k with
      | succ k =>
        rw [show ((k + 1 : Nat) : Int) - 1 = k by omega]
        have hge : (0 : Int) ≤ (k : Int) := by omega
        go_wp2_with fail
        refine (mark_ref (k : Int) _ (by omega) (by omega)).mono ?_
        rintro e w3 ⟨rfl, hb3⟩
        have HD3 := hid (HD.out.then hb3)
        clear hb3 HD
        go_wp2_with fail
        refine (ref_write HD3.out.ref HT.out.1 HT.out.2 t (k : Int) (markOf (k : Int))).mono ?_
        rintro e w4 ⟨rfl, hd4, hf4⟩
        have HD4 := hid (HD3.out.step hd4 hf4)
        have HT4 := hid (And.intro (HT.out.1.write t (k : Int) (markOf (k : Int))) (Nat.le_trans (Dv.write_pend t (k : Int) (markOf (k : Int))) HT.out.2))
        have HC4 := hid ((write_claim T t (k : Int) (markOf (k : Int))).trans HC.out)
        have hst : capW T t (k + 1) = if (T.write t (k : Int) (markOf (k : Int))).1 = 0 then capW (T.write t (k : Int) (markOf (k : Int))).2 t k else T.write t (k : Int) (markOf (k : Int)) := rfl
        clear hd4 hf4 HD3
        generalize T.write t (k : Int) (markOf (k : Int)) = y at *
        obtain ⟨er, T2⟩ := y
        dsimp only at *
        by_cases he : er = 0
        · subst he
          rw [if_pos rfl] at hst
          have HW2 := hid (HW.out.trans hst)
          clear hst HW
          go_wp2
          go_roundw
          case rel => exact ⟨k, T2, by omega, by go_num, HW2, HT4, HC4, HD4⟩
          case measure => (simp [intOf]; try omega)
        · rw [if_neg he] at hst
          have hrr := capOf_w HO.out HN.out (HW.out.trans hst) he
          rw [HR.out] at hrr
          subst hrr
          have hd2 := bne_t he
          clear hst he
          go_wp2
          go_ret2
          exact ⟨rfl, HD4.out⟩
      | zero =>
        have HW0 := hid (show capW S t n = (0, T) from HW.out)
        clear HW
        rw [show ((0 : Nat) : Int) - 1 = -1 by omega]
        go_wp2_with fail
        have HX0 := hid (show capR T 0 n = capR T 0 n from rfl)
        go_loopw [8] (fun i wr => ∃ (k m : Nat), k + m = n ∧ i = .int .i64 k ∧ Hid (capR T 0 n = capR T k m) ∧ Hid (RefG w o a T wr)) (fun i _ => (n - intOf i).toNat)
        case atStart => exact ⟨0, n, by omega, rfl, HX0, HD⟩
        case round =>
          clear HD HX0
          obtain ⟨k, m, hkm, rfl, HX, HD⟩ := hrel
          have z0 := HD.out.ref.slots_on.1
          rw [HC.out] at z0
          cases m with
          | succ m =>
            have hlt : (k : Int) < (n : Int) := by omega
            have hst : capR T k (m + 1) = if (T.read (k : Int)).2 ≠ 0 then (0, (T.read (k : Int)).2) else if (T.read (k : Int)).1 ≠ markOf (k : Int) then (k, 0) else capR T (k + 1) m := rfl
            have HST := hid hst
            clear hst
            go_wp2_with fail
            refine (ref_read_b HD.out.ref HT.out.1 (k : Int)).mono ?_
            rintro e w5 ⟨rfl, hb5⟩
            have HD5 := hid (HD.out.then hb5)
            clear hb5 HD z0
            generalize (T.read (k : Int)).1 = x at *
            generalize (T.read (k : Int)).2 = er at *
            by_cases he : er = 0
            · subst he
              have hst := HST.out
              rw [if_neg (by simp)] at hst
              have HST2 := hid hst
              clear hst HST
              go_wp2_with fail
              refine (mark_ref (k : Int) _ (by omega) (by omega)).mono ?_
              rintro e w6 ⟨rfl, hb6⟩
              have HD6 := hid (HD5.out.then hb6)
              clear hb6 HD5
              generalize hmk : markOf (k : Int) = mk at *
              by_cases hx : x = mk
              · subst hx
                have hst := HST2.out
                rw [if_neg (by simp)] at hst
                have HX2 := hid (HX.out.trans hst)
                clear hst HST2
                have hse := str_eq x
                go_wp2
                go_roundw
                case rel => exact ⟨k + 1, m, by omega, by go_num, HX2, HD6⟩
                case measure => (simp [intOf]; try omega)
              · have hst := HST2.out
                rw [if_pos hx] at hst
                have HX2 := hid (HX.out.trans hst)
                clear hst HST2
                have hse := str_ne hx
                clear hx
                have hsz : k ≤ n := by omega
                clear hkm hlt
                go_wp2_with fail
                have HE0 := hid (show capE T t 0 k = capE T t 0 k from rfl)
                go_loopw [11] (fun i wr => ∃ (q m : Nat) (F : Dv), q + m = k ∧ i = .int .i64 q ∧ Hid (capE T t 0 k = capE F t q m) ∧ Hid (F.Ok ∧ F.pend.length ≤ 1000000) ∧ Hid (RefG w o a F wr)) (fun i _ => (k - intOf i).toNat)
                case atStart => exact ⟨0, k, T, by omega, rfl, HE0, HT, HD6⟩
                case round =>
                  clear HD6 HE0
                  obtain ⟨q, m, F, hqm, rfl, HE, HQ, HD⟩ := hrel
                  cases m with
                  | succ m =>
                    have hlt : (q : Int) < (k : Int) := by omega
                    go_wp2_with fail
                    refine (ref_erase HD.out.ref HQ.out.1 HQ.out.2 t (q : Int)).mono ?_
                    rintro e w4 ⟨rfl, hd4, hf4⟩
                    have HD4 := hid (HD.out.step hd4 hf4)
                    have HT4 := hid (And.intro (HQ.out.1.write t (q : Int) blank) (Nat.le_trans (Dv.write_pend t (q : Int) blank) HQ.out.2))
                    have hst : capE F t q (m + 1) = if (F.write t (q : Int) blank).1 = 0 then capE (F.write t (q : Int) blank).2 t (q + 1) m else F.write t (q : Int) blank := rfl
                    clear hd4 hf4 HD
                    generalize F.write t (q : Int) blank = y at *
                    obtain ⟨er, T2⟩ := y
                    dsimp only at *
                    by_cases he : er = 0
                    · subst he
                      rw [if_pos rfl] at hst
                      have HE2 := hid (HE.out.trans hst)
                      clear hst HE
                      go_wp2
                      go_roundw
                      case rel => exact ⟨q + 1, m, T2, by omega, by go_num, HE2, HT4, HD4⟩
                      case measure => (simp [intOf]; try omega)
                    · rw [if_neg he] at hst
                      have hrr := capOf_e HO.out HN.out HW0.out HX2.out (HE.out.trans hst) he
                      rw [HR.out] at hrr
                      subst hrr
                      have hd2 := bne_t he
                      clear hst he
                      go_wp2
                      go_ret2
                      exact ⟨rfl, HD4.out⟩
                  | zero =>
                    obtain rfl : q = k := by omega
                    have hrr := capOf_ok HO.out HN.out HW0.out HX2.out (show capE T t 0 q = (0, F) from HE.out)
                    rw [HR.out] at hrr
                    subst hrr
                    go_wp2
                    go_ret2
                    exact ⟨rfl, HD.out⟩
            · have hst := HST.out
              rw [if_pos he] at hst
              have hrr := capOf_r HO.out HN.out HW0.out (HX.out.trans hst) he
              rw [HR.out] at hrr
              subst hrr
              have hd2 := bne_t he
              clear hst he
              go_wp2
              go_ret2
              exact ⟨rfl, HD5.out⟩
          | zero =>
            obtain rfl : k = n := by omega
            have HX2 := hid (show capR T 0 k = (k, 0) from HX.out)
            have HD6 := HD
            clear HX HD
            have hsz : k ≤ k := Nat.le_refl _
            go_wp2_with fail
            have HE0 := hid (show capE T t 0 k = capE T t 0 k from rfl)
            go_loopw [11] (fun i wr => ∃ (q m : Nat) (F : Dv), q + m = k ∧ i = .int .i64 q ∧ Hid (capE T t 0 k = capE F t q m) ∧ Hid (F.Ok ∧ F.pend.length ≤ 1000000) ∧ Hid (RefG w o a F wr)) (fun i _ => (k - intOf i).toNat)
            case atStart => exact ⟨0, k, T, by omega, rfl, HE0, HT, HD6⟩
            case round =>
              clear HD6 HE0
              obtain ⟨q, m, F, hqm, rfl, HE, HQ, HD⟩ := hrel
              cases m with
              | succ m =>
                have hlt : (q : Int) < (k : Int) := by omega
                go_wp2_with fail
                refine (ref_erase HD.out.ref HQ.out.1 HQ.out.2 t (q : Int)).mono ?_
                rintro e w4 ⟨rfl, hd4, hf4⟩
                have HD4 := hid (HD.out.step hd4 hf4)
                have HT4 := hid (And.intro (HQ.out.1.write t (q : Int) blank) (Nat.le_trans (Dv.write_pend t (q : Int) blank) HQ.out.2))
                have hst : capE F t q (m + 1) = if (F.write t (q : Int) blank).1 = 0 then capE (F.write t (q : Int) blank).2 t (q + 1) m else F.write t (q : Int) blank := rfl
                clear hd4 hf4 HD
                generalize F.write t (q : Int) blank = y at *
                obtain ⟨er, T2⟩ := y
                dsimp only at *
                by_cases he : er = 0
                · subst he
                  rw [if_pos rfl] at hst
                  have HE2 := hid (HE.out.trans hst)
                  clear hst HE
                  go_wp2
                  go_roundw
                  case rel => exact ⟨q + 1, m, T2, by omega, by go_num, HE2, HT4, HD4⟩
                  case measure => (simp [intOf]; try omega)
                · rw [if_neg he] at hst
                  have hrr := capOf_e HO.out HN.out HW0.out HX2.out (HE.out.trans hst) he
                  rw [HR.out] at hrr
                  subst hrr
                  have hd2 := bne_t he
                  clear hst he
                  go_wp2
                  go_ret2
                  exact ⟨rfl, HD4.out⟩
              | zero =>
                obtain rfl : q = k := by omega
                have hrr := capOf_ok HO.out HN.out HW0.out HX2.out (show capE T t 0 q = (0, F) from HE.out)
                rw [HR.out] at hrr
                subst hrr
                go_wp2
                go_ret2
                exact ⟨rfl, HD.out⟩
end
end Go.Proofs.Ytegekmdechcikaa
