/- Capacity of the program. -/
import Derived.Test.YtegekmdechcikaaSA
namespace Go.Proofs.Ytegekmdechcikaa
open Go Go.RowKit Go.Sort

/-- The slots below k are written, from above. -/
def capW (S : Dv) (t : Int) : Nat → Int × Dv
  | 0 => (0, S)
  | k + 1 => if (S.write t (k : Int) (markOf (k : Int))).1 = 0 then capW (S.write t (k : Int) (markOf (k : Int))).2 t k else S.write t (k : Int) (markOf (k : Int))
/-- The first slot from s, of m, that holds another text than its mark. -/
def capR (S : Dv) : Nat → Nat → Nat × Int
  | s, 0 => (s, 0)
  | s, m + 1 => if (S.read (s : Int)).2 ≠ 0 then (0, (S.read (s : Int)).2) else if (S.read (s : Int)).1 ≠ markOf (s : Int) then (s, 0) else capR S (s + 1) m
/-- The slots from s, of m, are erased. -/
def capE (S : Dv) (t : Int) : Nat → Nat → Int × Dv
  | _, 0 => (0, S)
  | s, m + 1 => if (S.write t (s : Int) blank).1 = 0 then capE (S.write t (s : Int) blank).2 t (s + 1) m else S.write t (s : Int) blank
def capOf (S : Dv) (t : Int) : Int × Int × Dv :=
  if S.online = false then (0, 105, S)
  else if (capW S t S.claim.toNat).1 ≠ 0 then (0, (capW S t S.claim.toNat).1, (capW S t S.claim.toNat).2)
  else if (capR (capW S t S.claim.toNat).2 0 S.claim.toNat).2 ≠ 0 then (0, (capR (capW S t S.claim.toNat).2 0 S.claim.toNat).2, (capW S t S.claim.toNat).2)
  else if (capE (capW S t S.claim.toNat).2 t 0 (capR (capW S t S.claim.toNat).2 0 S.claim.toNat).1).1 ≠ 0 then (0, capE (capW S t S.claim.toNat).2 t 0 (capR (capW S t S.claim.toNat).2 0 S.claim.toNat).1)
  else ((capR (capW S t S.claim.toNat).2 0 S.claim.toNat).1, 0, (capE (capW S t S.claim.toNat).2 t 0 (capR (capW S t S.claim.toNat).2 0 S.claim.toNat).1).2)
theorem capOf_off {S : Dv} {t : Int} (h : S.online = false) : capOf S t = (0, 105, S) := by unfold capOf; rw [if_pos h]
theorem capOf_w {S T : Dv} {t er : Int} {n : Nat} (ho : S.online = true) (hn : S.claim = n) (h : capW S t n = (er, T)) (he : er ≠ 0) : capOf S t = (0, er, T) := by
  unfold capOf
  rw [if_neg (by simp [ho]), show S.claim.toNat = n by omega, h, if_pos he]
theorem capOf_r {S T : Dv} {t er : Int} {n m : Nat} (ho : S.online = true) (hn : S.claim = n) (h : capW S t n = (0, T)) (hr : capR T 0 n = (m, er)) (he : er ≠ 0) : capOf S t = (0, er, T) := by
  unfold capOf
  rw [if_neg (by simp [ho]), show S.claim.toNat = n by omega, h, if_neg (by simp), hr, if_pos he]
theorem capOf_e {S T F : Dv} {t er : Int} {n m : Nat} (ho : S.online = true) (hn : S.claim = n) (h : capW S t n = (0, T)) (hr : capR T 0 n = (m, 0)) (hE : capE T t 0 m = (er, F)) (he : er ≠ 0) : capOf S t = (0, er, F) := by
  unfold capOf
  rw [if_neg (by simp [ho]), show S.claim.toNat = n by omega, h, if_neg (by simp), hr, if_neg (by simp), hE, if_pos he]
theorem capOf_ok {S T F : Dv} {t : Int} {n m : Nat} (ho : S.online = true) (hn : S.claim = n) (h : capW S t n = (0, T)) (hr : capR T 0 n = (m, 0)) (hE : capE T t 0 m = (0, F)) : capOf S t = ((m : Int), 0, F) := by
  unfold capOf
  rw [if_neg (by simp [ho]), show S.claim.toNat = n by omega, h, if_neg (by simp), hr, if_neg (by simp), hE, if_neg (by simp)]
theorem write_claim (S : Dv) (t s : Int) (d : ByteArray) : (S.write t s d).2.claim = S.claim := by
  unfold Dv.write
  repeat' split
  all_goals first | rfl | skip
  unfold Dv.store
  repeat' split
  all_goals rfl
section
variable {w : World} {o : Own} {a : Nat} {S : Dv}
set_option maxRecDepth 100000 in
set_option maxHeartbeats 4000000 in
theorem capacity_any (h : Drv w o a S) (hS : S.Ok) (t : Int) :
    Calls Try.prog 26 #[.pointer (some ⟨a, 0, none⟩), .int .i64 t] w fun e w' => e = .returned (.tuple #[.int .i64 (capOf S t).1, .int .i64 (capOf S t).2.1]) ∧ Drv w' o a (capOf S t).2.2 ∧ Fr o w w' := by
  have HU := hid h.under
  have HH := hid h
  have HS := hid hS
  have hc0 : 1 ≤ S.claim := by have := hS.one; have := hS.le; omega
  have hc1 := hS.top
  clear h hS
  have hfld := fun W => field_on S.online S.dead S.term W
  cases ho : S.online
  case false =>
    have hq := capOf_off (t := t) ho
    rw [hq]
    have HO := hid ho
    clear ho hq
    go_enter Try.func26, Try.ntmps26
    go_wp2_with fail
    refine (status_e HH.out HS.out).mono ?_
    rintro e w1 ⟨rfl, hb1⟩
    rw [HO.out]
    rw [HO.out] at hfld
    have H1 := hid (HH.out.below hb1)
    have HF := hid (Fr.ofBelow (o := o) hb1)
    clear hb1
    go_wp2
    go_ret2
    exact ⟨rfl, H1.out, HF.out⟩
  case true =>
    have HO := hid ho
    clear ho
    obtain ⟨n, hn⟩ := Int.eq_ofNat_of_zero_le (show 0 ≤ S.claim by omega)
    have hn0 : 1 ≤ n := by omega
    have hn1 : n ≤ 128 := by omega
    have HN := hid hn
    clear hn hc0 hc1
    obtain ⟨r, hr⟩ : ∃ r, capOf S t = r := ⟨_, rfl⟩
    have HR := hid hr
    rw [hr]
    clear hr
    go_enter Try.func26, Try.ntmps26
    go_wp2_with fail
    refine (status_e HH.out HS.out).mono ?_
    rintro e w1 ⟨rfl, hb1⟩
    rw [HO.out]
    rw [HO.out] at hfld
    have H1 := hid (HH.out.below hb1)
    have HF1 := hid (Fr.ofBelow (o := o) hb1)
    clear hb1
    go_wp2_with fail
    refine (claim_e H1.out).mono ?_
    rintro e w2 ⟨rfl, rfl⟩
    rw [HN.out]
    go_wp2_with fail
    go_loopw [6] (fun i wr => ∃ (k : Nat) (T : Dv), k ≤ n ∧ i = .int .i64 ((k : Int) - 1) ∧ Hid (capW S t n = capW T t k) ∧ Hid T.Ok ∧ Hid (T.claim = n) ∧ Hid (Drv wr o a T) ∧ Hid (Fr o w wr)) (fun i _ => (intOf i + 1).toNat)
    case atStart => exact ⟨n, S, Nat.le_refl _, rfl, rfl, HS, HN, H1, HF1⟩
    case round =>
      clear H1 HF1 hfld HH
      obtain ⟨k, T, hk, rfl, HW, HT, HC, HD, HF⟩ := hrel
      cases k with
      | succ k =>
        rw [show ((k + 1 : Nat) : Int) - 1 = k by omega]
        have hge : (0 : Int) ≤ (k : Int) := by omega
        go_wp2_with fail
        refine (mark_prog (k : Int) _ (by omega) (by omega)).mono ?_
        rintro e w3 ⟨rfl, hb3⟩
        have HD3 := hid (HD.out.below hb3)
        have HF3 := hid (HF.out.thenBelow hb3)
        clear hb3 HD HF
        go_wp2_with fail
        refine (write_e HD3.out HT.out t (k : Int) (markOf (k : Int))).mono ?_
        rintro e w4 ⟨rfl, hd4, hf4⟩
        have HD4 := hid hd4
        have HF4 := hid (HF3.out.trans (fun _ e => .inl e) hf4)
        have HT4 := hid (HT.out.write t (k : Int) (markOf (k : Int)))
        have HC4 := hid ((write_claim T t (k : Int) (markOf (k : Int))).trans HC.out)
        have hst : capW T t (k + 1) = if (T.write t (k : Int) (markOf (k : Int))).1 = 0 then capW (T.write t (k : Int) (markOf (k : Int))).2 t k else T.write t (k : Int) (markOf (k : Int)) := rfl
        clear hd4 hf4 HD3 HF3
        generalize T.write t (k : Int) (markOf (k : Int)) = y at *
        obtain ⟨er, T2⟩ := y
        dsimp only at *
        by_cases he : er = 0
        · subst he
          rw [if_pos rfl] at hst
          have HW2 := hid (HW.out.trans hst)
          clear hst HW
          go_wp2
          go_roundw
          case rel => exact ⟨k, T2, by omega, by go_num, HW2, HT4, HC4, HD4, HF4⟩
          case measure => (simp [intOf]; try omega)
        · rw [if_neg he] at hst
          have hrr := capOf_w HO.out HN.out (HW.out.trans hst) he
          rw [HR.out] at hrr
          subst hrr
          have hd2 := bne_t he
          clear hst he
          go_wp2
          go_ret2
          exact ⟨rfl, HD4.out, HF4.out⟩
      | zero =>
        have HW0 := hid (show capW S t n = (0, T) from HW.out)
        clear HW
        rw [show ((0 : Nat) : Int) - 1 = -1 by omega]
        go_wp2_with fail
        refine (claim_e HD.out).mono ?_
        rintro e w3 ⟨rfl, rfl⟩
        rw [HC.out]
        go_wp2_with fail
        refine (claim_e HD.out).mono ?_
        rintro e w3 ⟨rfl, rfl⟩
        rw [HC.out]
        go_wp2_with fail
        have HX0 := hid (show capR T 0 n = capR T 0 n from rfl)
        go_loopw [8, 38] (fun v i wr => ∃ (k m : Nat), k + m = n ∧ v = .int .i64 n ∧ i = .int .i64 k ∧ Hid (capR T 0 n = capR T k m) ∧ Hid (Drv wr o a T) ∧ Hid (Fr o w wr)) (fun _ i _ => (n - intOf i).toNat)
        case atStart => exact ⟨0, n, by omega, rfl, rfl, HX0, HD, HF⟩
        case round =>
          clear HD HF HX0
          obtain ⟨k, m, hkm, rfl, rfl, HX, HD, HF⟩ := hrel
          cases m with
          | succ m =>
            have hlt : (k : Int) < (n : Int) := by omega
            have hst : capR T k (m + 1) = if (T.read (k : Int)).2 ≠ 0 then (0, (T.read (k : Int)).2) else if (T.read (k : Int)).1 ≠ markOf (k : Int) then (k, 0) else capR T (k + 1) m := rfl
            have HST := hid hst
            clear hst
            go_wp2_with fail
            refine (read_b HD.out HT.out (k : Int)).mono ?_
            rintro e w5 ⟨rfl, hb5⟩
            have HD5 := hid (HD.out.below hb5)
            have HF5 := hid (HF.out.thenBelow hb5)
            clear hb5 HD HF
            generalize (T.read (k : Int)).1 = x at *
            generalize (T.read (k : Int)).2 = er at *
            by_cases he : er = 0
            · subst he
              have hst := HST.out
              rw [if_neg (by simp)] at hst
              have HST2 := hid hst
              clear hst HST
              go_wp2_with fail
              refine (mark_prog (k : Int) _ (by omega) (by omega)).mono ?_
              rintro e w6 ⟨rfl, hb6⟩
              have HD6 := hid (HD5.out.below hb6)
              have HF6 := hid (HF5.out.thenBelow hb6)
              clear hb6 HD5 HF5
              generalize hmk : markOf (k : Int) = mk at *
              by_cases hx : x = mk
              · subst hx
                have hst := HST2.out
                rw [if_neg (by simp)] at hst
                have HX2 := hid (HX.out.trans hst)
                clear hst HST2
                have hse := str_eq x
                go_wp2
                go_roundw
                case rel => exact ⟨k + 1, m, by omega, rfl, by go_num, HX2, HD6, HF6⟩
                case measure => (simp [intOf]; try omega)
              · have hst := HST2.out
                rw [if_pos hx] at hst
                have HX2 := hid (HX.out.trans hst)
                clear hst HST2
                have hse := str_ne hx
                clear hx
                have hsz : k ≤ n := by omega
                clear hkm hlt
                go_wp2_with fail
                have HE0 := hid (show capE T t 0 k = capE T t 0 k from rfl)
                go_loopw [57] (fun i wr => ∃ (q m : Nat) (F : Dv), q + m = k ∧ i = .int .i64 q ∧ Hid (capE T t 0 k = capE F t q m) ∧ Hid F.Ok ∧ Hid (Drv wr o a F) ∧ Hid (Fr o w wr)) (fun i _ => (k - intOf i).toNat)
                case atStart => exact ⟨0, k, T, by omega, rfl, HE0, HT, HD6, HF6⟩
                case round =>
                  clear HD6 HF6 HE0
                  obtain ⟨q, m, F, hqm, rfl, HE, HQ, HD, HF⟩ := hrel
                  cases m with
                  | succ m =>
                    have hlt : (q : Int) < (k : Int) := by omega
                    go_wp2_with fail
                    refine (erase_e HD.out HQ.out t (q : Int)).mono ?_
                    rintro e w4 ⟨rfl, hd4, hf4⟩
                    have HD4 := hid hd4
                    have HF4 := hid (HF.out.trans (fun _ e => .inl e) hf4)
                    have HT4 := hid (HQ.out.write t (q : Int) blank)
                    have hst : capE F t q (m + 1) = if (F.write t (q : Int) blank).1 = 0 then capE (F.write t (q : Int) blank).2 t (q + 1) m else F.write t (q : Int) blank := rfl
                    clear hd4 hf4 HD HF
                    generalize F.write t (q : Int) blank = y at *
                    obtain ⟨er, T2⟩ := y
                    dsimp only at *
                    by_cases he : er = 0
                    · subst he
                      rw [if_pos rfl] at hst
                      have HE2 := hid (HE.out.trans hst)
                      clear hst HE
                      go_wp2
                      go_roundw
                      case rel => exact ⟨q + 1, m, T2, by omega, by go_num, HE2, HT4, HD4, HF4⟩
                      case measure => (simp [intOf]; try omega)
                    · rw [if_neg he] at hst
                      have hrr := capOf_e HO.out HN.out HW0.out HX2.out (HE.out.trans hst) he
                      rw [HR.out] at hrr
                      subst hrr
                      have hd2 := bne_t he
                      clear hst he
                      go_wp2
                      go_ret2
                      exact ⟨rfl, HD4.out, HF4.out⟩
                  | zero =>
                    obtain rfl : q = k := by omega
                    have hrr := capOf_ok HO.out HN.out HW0.out HX2.out (show capE T t 0 q = (0, F) from HE.out)
                    rw [HR.out] at hrr
                    subst hrr
                    go_wp2
                    go_ret2
                    exact ⟨rfl, HD.out, HF.out⟩
            · have hst := HST.out
              rw [if_pos he] at hst
              have hrr := capOf_r HO.out HN.out HW0.out (HX.out.trans hst) he
              rw [HR.out] at hrr
              subst hrr
              have hd2 := bne_t he
              clear hst he
              go_wp2
              go_ret2
              exact ⟨rfl, HD5.out, HF5.out⟩
          | zero =>
            obtain rfl : k = n := by omega
            have HX2 := hid (show capR T 0 k = (k, 0) from HX.out)
            have HD6 := HD
            have HF6 := HF
            clear HX HD HF
            have hsz : k ≤ k := Nat.le_refl _
            go_wp2_with fail
            have HE0 := hid (show capE T t 0 k = capE T t 0 k from rfl)
            go_loopw [57] (fun i wr => ∃ (q m : Nat) (F : Dv), q + m = k ∧ i = .int .i64 q ∧ Hid (capE T t 0 k = capE F t q m) ∧ Hid F.Ok ∧ Hid (Drv wr o a F) ∧ Hid (Fr o w wr)) (fun i _ => (k - intOf i).toNat)
            case atStart => exact ⟨0, k, T, by omega, rfl, HE0, HT, HD6, HF6⟩
            case round =>
              clear HD6 HF6 HE0
              obtain ⟨q, m, F, hqm, rfl, HE, HQ, HD, HF⟩ := hrel
              cases m with
              | succ m =>
                have hlt : (q : Int) < (k : Int) := by omega
                go_wp2_with fail
                refine (erase_e HD.out HQ.out t (q : Int)).mono ?_
                rintro e w4 ⟨rfl, hd4, hf4⟩
                have HD4 := hid hd4
                have HF4 := hid (HF.out.trans (fun _ e => .inl e) hf4)
                have HT4 := hid (HQ.out.write t (q : Int) blank)
                have hst : capE F t q (m + 1) = if (F.write t (q : Int) blank).1 = 0 then capE (F.write t (q : Int) blank).2 t (q + 1) m else F.write t (q : Int) blank := rfl
                clear hd4 hf4 HD HF
                generalize F.write t (q : Int) blank = y at *
                obtain ⟨er, T2⟩ := y
                dsimp only at *
                by_cases he : er = 0
                · subst he
                  rw [if_pos rfl] at hst
                  have HE2 := hid (HE.out.trans hst)
                  clear hst HE
                  go_wp2
                  go_roundw
                  case rel => exact ⟨q + 1, m, T2, by omega, by go_num, HE2, HT4, HD4, HF4⟩
                  case measure => (simp [intOf]; try omega)
                · rw [if_neg he] at hst
                  have hrr := capOf_e HO.out HN.out HW0.out HX2.out (HE.out.trans hst) he
                  rw [HR.out] at hrr
                  subst hrr
                  have hd2 := bne_t he
                  clear hst he
                  go_wp2
                  go_ret2
                  exact ⟨rfl, HD4.out, HF4.out⟩
              | zero =>
                obtain rfl : q = k := by omega
                have hrr := capOf_ok HO.out HN.out HW0.out HX2.out (show capE T t 0 q = (0, F) from HE.out)
                rw [HR.out] at hrr
                subst hrr
                go_wp2
                go_ret2
                exact ⟨rfl, HD.out, HF.out⟩
end
end Go.Proofs.Ytegekmdechcikaa

/- Good, Classify of the program. -/
namespace Go.Proofs.Ytegekmdechcikaa
open Go Go.RowKit Go.Sort

abbrev Wt.cells (q : Wt) : List Value := [.int .i64 q.slot, .int .i64 q.pc.vol, .int .i64 q.pc.frag, .int .i64 q.pc.stripe, .int .i64 q.pc.gen, .int .i64 q.pc.ver, .string q.pc.data]
theorem wt_length (q : Wt) : q.cells.length = 7 := rfl
abbrev WantsAt (w : World) (v : Value) (l : List Wt) : Prop := ArgSl w 7 v l.length (l.flatMap Wt.cells)
theorem WantsAt.cell {w : World} {b off : Nat} {l : List Wt} (h : ∀ j u, (l.flatMap Wt.cells)[j]? = some u → w.cell? ⟨b, off + j, none⟩ = some u) (k : Nat) (hk : k < l.length) (j : Nat) (u : Value) (hj : j < 7) (hv : l[k].cells[j]? = some u) :
    w.cell? ⟨b, off + k * 7 + j, none⟩ = some u := by
  rw [Nat.add_assoc]
  exact h _ _ ((flat_get Wt.cells 7 wt_length l k hk j hj).trans hv)
def ints (l : List Int) : List Value := l.map fun i => .int .i64 i
abbrev Ints (w : World) (o : Own) (v : Value) (l : List Int) : Prop := OwnSl w o 1 v l.length (ints l)
def isGood (st : Int) : Bool := st == 1 || st == 7
theorem Try.info_int : (Try.prog.info? 3).map (fun i => (i.zero, i.size, i.bytes)) = some (some (.int .i64 0), 1, 8) := by kernel_rfl
section
variable {w : World} {o : Own} {a : Nat} {S : Dv}
set_option maxHeartbeats 1000000 in
theorem good_any (h : Drv w o a S) (hS : S.Ok) (q : Wt) :
    Calls Try.prog 19 #[.pointer (some ⟨a, 0, none⟩), q.val] w fun e w' => e = .returned (.bool (isGood (stateOf S q))) ∧ Below w.heap.size w w' := by
  have HH := hid h
  have HS := hid hS
  clear h hS
  have hb1 : Below w.heap.size w (w.alloc (.cells q.cells.toArray 36)) := (Below.refl _ _).alloc (Nat.le_refl _) _
  have H1 := hid (HH.out.below hb1)
  have HB1 := hid hb1
  clear hb1
  obtain ⟨st, hst⟩ : ∃ st, stateOf S q = st := ⟨_, rfl⟩
  rw [hst]
  obtain ⟨g, hgg⟩ : ∃ g, isGood st = g := ⟨_, rfl⟩
  rw [hgg]
  have HG := hid (show (st == 1 || st == 7) = g from hgg)
  clear hgg
  go_enter Try.func19, Try.ntmps19
  go_wp2_with fail
  refine (classify_any H1.out HS.out q).mono ?_
  rintro e w2 ⟨rfl, hb2⟩
  have hw2 := HB1.out.trans (hb2.mono (by simp))
  clear hb2 H1 HB1
  rw [hst]
  clear hst
  by_cases h1 : st = 1
  · subst h1
    obtain rfl : true = g := HG.out
    go_wp2
    go_ret
    exact ⟨rfl, hw2⟩
  · have g1 := beq_f h1
    obtain rfl : (st == 7) = g := by rw [← HG.out, g1]; rfl
    go_wp2
    go_ret
    exact ⟨rfl, hw2⟩
set_option maxRecDepth 100000 in
set_option maxHeartbeats 2000000 in
theorem classify_all (h : Drv w o a S) (hS : S.Ok) {v : Value} {l : List Wt} (hl : WantsAt w v l) (hm : l.length ≤ 1000) :
    Calls Try.prog 16 #[.pointer (some ⟨a, 0, none⟩), v] w fun e w' => ∃ r, e = .returned r ∧ Ints w' (New w) r (l.map (stateOf S)) ∧ Below w.heap.size w w' := by
  have HU := hid h.under
  have HH := hid h
  have HS := hid hS
  have HL := hid hl
  obtain ⟨_, _, A, c, rfl, hc⟩ := hl
  have HC := hid hc
  clear h hS hc
  obtain ⟨i0, hi0, hz0, hz1, hz2⟩ := info_parts Try.info_int
  go_enter Try.func16, Try.ntmps16
  go_wp2_with fail
  go_loopw [5, 10] (fun v i wr => ∃ (k : Nat), k ≤ l.length ∧ i = .int .i64 k ∧ Hid (Ints wr (New w) v ((l.take k).map (stateOf S))) ∧ Hid (Drv wr o a S) ∧ Below w.heap.size w wr) (fun _ i _ => (l.length - intOf i).toNat)
  case atStart => exact ⟨0, Nat.zero_le _, rfl, OwnSl.nil _ _ _, HH, Below.refl _ _⟩
  case round =>
    clear HH
    obtain ⟨k, hk, rfl, hv, HD, hb⟩ := hrel
    by_cases hlt : k < l.length
    · have htk : (l.take (k + 1)).map (stateOf S) = (l.take k).map (stateOf S) ++ [stateOf S l[k]] := by rw [List.take_succ_eq_append_getElem hlt, List.map_append]; rfl
      have HTK := hid htk
      clear htk
      have hln : ((l.take k).map (stateOf S)).length = k := by simp; omega
      obtain ⟨b, off, rfl, hbl, hcell⟩ := HC.out (by omega)
      have hc2 : ∀ j u, (l.flatMap Wt.cells)[j]? = some u → wr.cell? ⟨b, off + j, none⟩ = some u := fun j u e => (hb.cell (p := ⟨b, off + j, none⟩) hbl).trans (hcell j u e)
      have z0 : wr.cell? ⟨b, off + k * 7, none⟩ = some (.int .i64 l[k].slot) := WantsAt.cell hc2 k hlt 0 _ (by omega) rfl
      have z1 := WantsAt.cell hc2 k hlt 1 _ (by omega) rfl
      have z2 := WantsAt.cell hc2 k hlt 2 _ (by omega) rfl
      have z3 := WantsAt.cell hc2 k hlt 3 _ (by omega) rfl
      have z4 := WantsAt.cell hc2 k hlt 4 _ (by omega) rfl
      have z5 := WantsAt.cell hc2 k hlt 5 _ (by omega) rfl
      have z6 := WantsAt.cell hc2 k hlt 6 _ (by omega) rfl
      clear hc2 hcell
      generalize l[k] = q at *
      generalize (l.take k).map (stateOf S) = dn at *
      have hv2 : OwnSl wr (New w) 1 u5 k (ints dn) := by
        have h := hv.out
        unfold Ints at h
        rwa [hln] at h
      have HV := hid hv2
      have HLN := hid hln
      clear hv hv2 hln
      obtain ⟨B, cap, rfl, hcap⟩ := OwnSl.form HV.out
      have hb5 : Below wr.heap.size wr (wr.alloc (.cells q.cells.toArray 36)) := (Below.refl _ _).alloc (Nat.le_refl _) _
      have HV5 := hid (OwnSl.below HV.out hb5)
      have HD5 := hid (HD.out.below hb5)
      have hw5 := hb.trans (hb5.mono hb.size)
      have hbs := hb.size
      clear HV HD hb
      go_wp2_with fail
      refine (classify_any HD5.out HS.out q).mono ?_
      rintro e w6 ⟨rfl, hb6⟩
      have HV6 := hid (OwnSl.below HV5.out hb6)
      have HD6 := hid (HD5.out.below hb6)
      have hw6 := hw5.trans (hb6.mono hw5.size)
      have hsz6 := hw6.size
      clear hb6 hb5 HV5 HD5 hw5 z0 z1 z2 z3 z4 z5 z6
      generalize stateOf S q = st at *
      go_wp2_with (at_builtin; refine wpList_append_sl (by rfl) (.tmp 14) (.tmp 18) 33 (by rfl) 3 i0 _ 1 8 Try.underlying33 hi0 hz0 hz1 hz2 rfl (by decide) (New w) _ (.slice (some ⟨w6.heap.size, 0, none⟩) 1 1) k 1 (ints dn) [.int .i64 st] (by rfl) (by rfl) (HV6.out.below ((Below.refl _ _).alloc (Nat.le_refl _) _)) ⟨rfl, .inr ⟨_, 1, rfl, World.news_of_block (cs := #[Value.int .i64 st]) (fr := (0, 0)) (heap_alloc_new w6 _)⟩⟩ (by simp [Value.oneCell']) (by unfold maxLen; omega) (by omega) ?_)
      intro v7 w7 hown7 hgrow
      have hb7 : Below w.heap.size w w7 := (hw6.alloc hsz6 _).trans (hgrow.below (fun k e => e) (by simp; omega))
      have hown8 := hid (show Ints w7 (New w) v7 ((l.take (k + 1)).map (stateOf S)) by
        rw [HTK.out]
        show OwnSl _ _ _ _ (dn ++ [st]).length (ints (dn ++ [st]))
        rw [List.length_append, show dn.length = k from HLN.out, show ints (dn ++ [st]) = ints dn ++ [.int .i64 st] by simp [ints]]
        exact hown7.mono (fun x e => by rcases e with e | e; exact e; simp at e; unfold New; omega))
      have hbl7 : Fr (New w) w6 w7 := (Fr.refl (New w) w6).alloc _ |>.trans (fun _ e => .inl e) hgrow
      have HD7 := hid (HD6.out.fr hbl7 (fun k a b => by have := HU.out k a; unfold New at b; omega))
      clear hown7 hgrow hbl7 HV6 HD6 hw6
      go_wp2
      go_roundw
      case rel => exact ⟨k + 1, by omega, by go_num, hown8, HD7, hb7⟩
      case measure => (simp [intOf]; try omega)
    · obtain rfl : k = l.length := by omega
      rw [List.take_length] at hv
      go_wp2
      go_ret
      exact ⟨_, rfl, hv.out, hb⟩
end
end Go.Proofs.Ytegekmdechcikaa

/- Capacity of a drive without faults. -/
namespace Go.Proofs.Ytegekmdechcikaa
open Go Go.RowKit Go.Sort

theorem mark_list (s : Int) : (markOf s).data.toList = encL 0 0 0 1 (s + 1) (zeros 16) := by unfold markOf; simp
theorem mark_size (s : Int) : (markOf s).size = 36 := by
  show (markOf s).data.size = 36
  rw [← Array.length_toList, mark_list]
  exact encL_length _ _ _ _ _ _ (by simp [zeros])
theorem mark_ver (s : Int) (h0 : 0 ≤ s) (h1 : s < 128) : fVer (markOf s).data.toList = s + 1 := by
  rw [mark_list]
  exact (dec_enc 0 0 0 1 (s + 1) (zeros 16) (mark_valid s h0 h1)).2.2.2.2.2.1
theorem mark_ne {s t : Int} (h0 : 0 ≤ s) (h1 : s < 128) (k0 : 0 ≤ t) (k1 : t < 128) (h : s ≠ t) : markOf s ≠ markOf t := by
  intro e
  have a := mark_ver s h0 h1
  have b := mark_ver t k0 k1
  rw [e, b] at a
  omega
/-- A drive online with no fault pending. -/
structure Fine (S : Dv) (n m : Nat) (t : Int) : Prop where
  ok : S.Ok
  claim : S.claim = n
  real : S.secs.length = m
  on : S.online = true
  pend : S.pend = []
  term : S.term ≤ t
/-- The drive with one sector put. -/
def setAt (S : Dv) (t : Int) (j : Nat) (d : ByteArray) : Dv := { S with term := t, secs := S.secs.set j ⟨d, false, false⟩ }
section
variable {S : Dv} {n m : Nat} {t : Int}
theorem Fine.write (h : Fine S n m t) (k : Nat) (hk : k < n) (d : ByteArray) (hd : d.size = 36) : S.write t k d = (0, setAt S t (k % m) d) ∧ Fine (setAt S t (k % m) d) n m t := by
  have e : S.write t k d = (0, setAt S t (k % m) d) := by
    unfold Dv.write
    rw [if_neg (by rw [h.on]; simp), if_neg (by have := h.term; omega), if_neg (by unfold Dv.slot; rw [h.claim]; simp; omega), if_neg (by rw [hd]; simp)]
    unfold Dv.store
    have h1 := h.pend
    have h2 := h.real
    obtain ⟨c, secs, off, dead, term, pend⟩ := S
    dsimp only at h1 h2
    subst h1
    show ((0 : Int), Dv.put ⟨c, secs, off, dead, t, []⟩ k ⟨d, false, false⟩) = _
    unfold Dv.put setAt Dv.at_
    rw [show (((k : Int) % (((⟨c, secs, off, dead, t, []⟩ : Dv).secs.length : Nat) : Int)).toNat) = k % m by
      rw [show (⟨c, secs, off, dead, t, []⟩ : Dv).secs.length = m from h2]
      omega]
  refine ⟨e, ⟨?_, h.claim, ?_, h.on, h.pend, Int.le_refl _⟩⟩
  · have := h.ok.write t k d
    rw [e] at this
    exact this
  · show (S.secs.set _ _).length = m
    rw [List.length_set, h.real]
theorem Fine.read (h : Fine S n m t) (k : Nat) (hk : k < n) {x : Sec} (hx : S.secs[k % m]? = some x) (hu : x.un = false) : S.read k = (x.data, 0) := by
  have hg : S.get k = x := by
    unfold Dv.get Dv.at_
    rw [h.real, show ((k : Int) % (m : Int)).toNat = k % m by omega, List.getD_eq_getElem?_getD, hx]
    rfl
  unfold Dv.read
  rw [if_neg (by rw [h.on]; simp), if_neg (by unfold Dv.slot; rw [h.claim]; simp; omega), hg, if_neg (by rw [hu]; simp)]
theorem capW_fine (hm : 1 ≤ m) (hmn : m ≤ n) : ∀ (k : Nat) (S : Dv), Fine S n m t → k ≤ n → (∀ j, k ≤ j → j < m → S.secs[j]? = some ⟨markOf j, false, false⟩) →
    ∃ F, capW S t k = (0, F) ∧ Fine F n m t ∧ (0 < k ∨ S.term = t → F.term = t) ∧ ∀ j, j < m → F.secs[j]? = some ⟨markOf j, false, false⟩
  | 0, S, h, _, hj => ⟨S, rfl, h, fun e => by rcases e with e | e; omega; exact e, fun j hlt => hj j (by omega) hlt⟩
  | k + 1, S, h, hk, hj => by
    obtain ⟨e, h2⟩ := h.write k (by omega) (markOf k) (mark_size _)
    obtain ⟨F, f1, f2, f3, f4⟩ := capW_fine hm hmn k (setAt S t (k % m) (markOf k)) h2 (by omega) (fun j h1 hlt => by
      show (S.secs.set _ _)[j]? = _
      by_cases hjk : j = k
      · subst hjk
        rw [Nat.mod_eq_of_lt hlt, List.getElem?_set_self (by rw [h.real]; exact hlt)]
      · have hne : k % m ≠ j := by have := Nat.mod_le k m; omega
        rw [List.getElem?_set_ne hne]
        exact hj j (by omega) hlt)
    refine ⟨F, ?_, f2, fun _ => f3 (.inr rfl), f4⟩
    show (if (S.write t (k : Int) (markOf (k : Int))).1 = 0 then capW (S.write t (k : Int) (markOf (k : Int))).2 t k else S.write t (k : Int) (markOf (k : Int))) = _
    rw [e, if_pos rfl]
    exact f1
theorem capR_fine (h : Fine S n m t) (hm : 1 ≤ m) (hmn : m ≤ n) (hn : n ≤ 128) (hj : ∀ j, j < m → S.secs[j]? = some ⟨markOf j, false, false⟩) : ∀ r s, s + r = n → s ≤ m → capR S s r = (m, 0)
  | 0, s, h1, h2 => by
    show (s, (0 : Int)) = _
    rw [show s = m by omega]
  | r + 1, s, h1, h2 => by
    show (if (S.read (s : Int)).2 ≠ 0 then (0, (S.read (s : Int)).2) else if (S.read (s : Int)).1 ≠ markOf (s : Int) then (s, 0) else capR S (s + 1) r) = _
    rw [h.read s (by omega) (hj (s % m) (Nat.mod_lt _ (by omega))) rfl, if_neg (by simp)]
    by_cases hs : s < m
    · rw [Nat.mod_eq_of_lt hs, if_neg (by simp)]
      exact capR_fine h hm hmn hn hj r (s + 1) (by omega) (by omega)
    · obtain rfl : s = m := by omega
      rw [Nat.mod_self, if_pos (mark_ne (by omega) (by omega) (by omega) (by omega) (by omega))]
theorem capE_fine (hmn : m ≤ n) : ∀ (r s : Nat) (S : Dv), Fine S n m t → s + r = m → (∀ j, j < s → S.secs[j]? = some blankSec) →
    ∃ F, capE S t s r = (0, F) ∧ Fine F n m t ∧ (S.term = t → F.term = t) ∧ ∀ j, j < m → F.secs[j]? = some blankSec
  | 0, s, S, h, hs, hj => ⟨S, rfl, h, id, fun j hlt => hj j (by omega)⟩
  | r + 1, s, S, h, hs, hj => by
    obtain ⟨e, h2⟩ := h.write s (by omega) blank rfl
    rw [Nat.mod_eq_of_lt (by omega)] at e h2
    obtain ⟨F, f1, f2, f3, f4⟩ := capE_fine hmn r (s + 1) (setAt S t s blank) h2 (by omega) (fun j h1 => by
      show (S.secs.set _ _)[j]? = _
      by_cases hjk : j = s
      · subst hjk
        rw [List.getElem?_set_self (by rw [h.real]; omega)]
        rfl
      · rw [List.getElem?_set_ne (by omega)]
        exact hj j (by omega))
    refine ⟨F, ?_, f2, fun _ => f3 rfl, f4⟩
    show (if (S.write t (s : Int) blank).1 = 0 then capE (S.write t (s : Int) blank).2 t (s + 1) r else S.write t (s : Int) blank) = _
    rw [e, if_pos rfl]
    exact f1
theorem cap_fine (h : Fine S n m t) (hm : 1 ≤ m) (hmn : m ≤ n) (hn : n ≤ 128) : ∃ F, capOf S t = ((m : Int), 0, F) ∧ Fine F n m t ∧ F.term = t ∧ F.secs = List.replicate m blankSec := by
  obtain ⟨T, a1, a2, a3, a4⟩ := capW_fine hm hmn n S h (Nat.le_refl _) (fun j h1 h2 => by omega)
  have b := capR_fine a2 hm hmn hn a4 n 0 (by omega) (by omega)
  obtain ⟨F, c1, c2, c3, c4⟩ := capE_fine hmn m 0 T a2 (by omega) (fun j h1 => by omega)
  refine ⟨F, capOf_ok h.on h.claim a1 b c1, c2, c3 (a3 (.inl (by omega))), List.ext_getElem? fun j => ?_⟩
  by_cases hj : j < m
  · rw [c4 j hj, List.getElem?_replicate, if_pos hj]
  · rw [List.getElem?_eq_none (by rw [c2.real]; omega), List.getElem?_replicate, if_neg hj]
theorem err_blank_sec : errOf blank.data.toList = 102 := err_blank _ rfl rfl
theorem Fine.read_blank (h : Fine S n m t) (hm : 1 ≤ m) (hs : S.secs = List.replicate m blankSec) (k : Nat) (hk : k < n) : S.read k = (blank, 0) :=
  h.read k hk (x := blankSec) (by rw [hs, List.getElem?_replicate, if_pos (Nat.mod_lt _ (by omega))]) rfl
theorem inv_blank (h : Fine S n m t) (hm : 1 ≤ m) (hs : S.secs = List.replicate m blankSec) : invOf S = [] := by
  unfold invOf
  rw [if_pos h.on, show S.claim.toNat = n by have := h.claim; omega]
  have : ∀ k, k ≤ n → inv S k = [] := by
    intro k
    induction k with
    | zero => intro _; rfl
    | succ k ih =>
      intro hk
      rw [inv_succ, ih (by omega)]
      unfold held1
      rw [h.read_blank hm hs k (by omega), if_neg (by rintro ⟨_, e⟩; rw [err_blank_sec] at e; omega)]
      rfl
  exact this n (Nat.le_refl _)
theorem state_blank (h : Fine S n m t) (hm : 1 ≤ m) (hs : S.secs = List.replicate m blankSec) (k : Nat) (hk : k < n) (p : Pc) : stateOf S ⟨k, p⟩ = 2 := by
  unfold stateOf seen
  dsimp only
  rw [h.read_blank hm hs k hk, if_neg (by decide), if_neg (by decide), if_neg (by simp), if_pos err_blank_sec]
theorem state_range (h : Fine S n m t) (s : Int) (hk : s < 0 ∨ n ≤ s) (p : Pc) : stateOf S ⟨s, p⟩ = 10 := by
  have : S.read s = (⟨#[]⟩, 5) := by
    unfold Dv.read
    rw [if_neg (by rw [h.on]; simp), if_pos (by unfold Dv.slot; rw [h.claim]; simp; omega)]
  unfold stateOf
  dsimp only
  rw [this, if_neg (by decide), if_pos rfl]
end
theorem fine_new (n m : Nat) (t : Int) (h1 : 1 ≤ m) (h2 : m ≤ n) (h3 : n ≤ 128) (ht : 0 ≤ t) : Fine (newDv n m) n m t :=
  ⟨newDv_ok n m h1 (by omega) (by omega), rfl, by simp [newDv], rfl, rfl, ht⟩
end Go.Proofs.Ytegekmdechcikaa

/- The law's own check. -/
namespace Go.Proofs.Ytegekmdechcikaa
open Go Go.RowKit Go.Sort

def zpc : Pc := ⟨0, 0, 0, 0, 0, ⟨#[]⟩⟩
theorem wants_new {w : World} {b : Nat} {l : List Wt} {e : TypeId} (h : w.heap[b]? = some (.cells (l.flatMap Wt.cells).toArray e)) (hm : l.length ≤ maxLen) (c : Nat) : WantsAt w (.slice (some ⟨b, 0, none⟩) l.length c) l := by
  refine ⟨flat_length Wt.cells 7 wt_length l, hm, _, c, rfl, fun _ => ⟨b, 0, rfl, (Array.getElem?_eq_some_iff.1 h).1, fun j u hu => ?_⟩⟩
  have := cell_block h j
  rw [Nat.zero_add]
  simpa [hu] using this
theorem ints_two {w : World} {o : Own} {v : Value} {x y : Int} (h : Ints w o v [x, y]) : ∃ g off c, v = .slice (some ⟨g, off, none⟩) 2 c ∧ w.cell? ⟨g, off, none⟩ = some (.int .i64 x) ∧ w.cell? ⟨g, off + 1, none⟩ = some (.int .i64 y) := by
  obtain ⟨g, off, c, rfl, _, _, _, _, hc, _⟩ := OwnSl.some_ h (by simp)
  exact ⟨g, off, c, rfl, hc 0 _ rfl, hc 1 _ rfl⟩
set_option maxRecDepth 100000 in
set_option maxHeartbeats 1000000 in
theorem awake27 (w : World) :
    Calls Try.prog 17 #[] w fun e w' => e = .returned (.bool true) ∧ Below w.heap.size w w' := by
  obtain ⟨F, hcap, hfine, hterm, hsecs⟩ := cap_fine (fine_new 8 3 1 (by omega) (by omega) (by omega) (by omega)) (by omega) (by omega) (by omega)
  have HC := hid hcap
  have HI := hid (inv_blank hfine (by omega) hsecs)
  have H1 := hid (state_blank hfine (by omega) hsecs 2 (by omega) zpc)
  have H2 := hid (state_range hfine 8 (by omega) zpc)
  have HO := hid hfine.ok
  have HON := hid hfine.on
  clear hcap hfine hterm hsecs
  go_enter Try.func17, Try.ntmps17
  go_wp2_with fail
  refine (new_e 8 3 w (by omega) (by omega) (by omega)).mono ?_
  rintro e w1 ⟨a, rfl, hd1, hb1⟩
  have HD1 := hid hd1
  have HA := hid (above_new (w := w) (w' := w1) (Nat.le_refl _))
  clear hd1
  generalize Grow NoOwn w w1 = o at HD1 HA
  go_wp2_with fail
  refine (capacity_any HD1.out (newDv_ok 8 3 (by omega) (by omega) (by omega)) 1).mono ?_
  rintro e w2 ⟨rfl, hd2, hf2⟩
  rw [show capOf (newDv 8 (3 : Nat)) 1 = _ from HC.out] at hd2 ⊢
  have HD2 := hid hd2
  have hw2 := below_of_fr hb1 hf2 HA.out hb1.size
  clear hd2 hf2 HD1 hb1
  go_wp2_with fail
  refine (inventory_any HD2.out HO.out).mono ?_
  rintro e w3 ⟨v3, rfl, hv3, hb3⟩
  rw [HI.out] at hv3
  obtain ⟨B3, c3, rfl, _⟩ := OwnSl.form hv3
  have HD3 := hid (HD2.out.below hb3)
  have hw3 := hw2.trans (hb3.mono hw2.size)
  rw [if_pos HON.out]
  clear HD2 hb3 hw2 hv3
  go_wp2_with fail
  have hb4 : Below w3.heap.size w3 (w3.alloc (.cells #[.int .i64 2, .int .i64 0, .int .i64 0, .int .i64 0, .int .i64 0, .int .i64 0, .string ⟨#[]⟩, .int .i64 8, .int .i64 0, .int .i64 0, .int .i64 0, .int .i64 0, .int .i64 0, .string ⟨#[]⟩] 36)) := (Below.refl _ _).alloc (Nat.le_refl _) _
  have hwa := wants_new (l := [⟨2, zpc⟩, ⟨8, zpc⟩]) (heap_alloc_new w3 (.cells #[.int .i64 2, .int .i64 0, .int .i64 0, .int .i64 0, .int .i64 0, .int .i64 0, .string ⟨#[]⟩, .int .i64 8, .int .i64 0, .int .i64 0, .int .i64 0, .int .i64 0, .int .i64 0, .string ⟨#[]⟩] 36)) (by decide) 2
  refine (classify_all (HD3.out.below hb4) HO.out hwa (by decide)).mono ?_
  rintro e w5 ⟨v5, rfl, hv5, hb5⟩
  rw [show List.map (stateOf F) [⟨2, zpc⟩, ⟨8, zpc⟩] = [2, 10] by rw [List.map_cons, List.map_cons, show stateOf F ⟨2, zpc⟩ = 2 from H1.out, H2.out]; rfl] at hv5
  obtain ⟨g, off, c, rfl, z0, z1⟩ := ints_two hv5
  have hw4 := hw3.trans (hb4.mono hw3.size)
  have hw5 := hw4.trans (hb5.mono hw4.size)
  clear hv5 hb5 hb4 hw4 hw3 hwa HD3
  go_wp2
  go_ret
  exact ⟨rfl, hw5⟩
end Go.Proofs.Ytegekmdechcikaa
