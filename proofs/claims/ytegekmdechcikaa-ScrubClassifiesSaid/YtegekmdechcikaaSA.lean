/- Pieces that are wanted and found; the marks. -/
import Derived.Test.YtegekmdechcikaaEX
import Derived.Test.YtegekmdechcikaaDecRef
namespace Go.Proofs.Ytegekmdechcikaa
open Go Go.RowKit Go.Sort

structure Pc where
  vol : Int
  frag : Int
  stripe : Int
  gen : Int
  ver : Int
  data : ByteArray
abbrev Pc.cells (p : Pc) : List Value := [.int .i64 p.vol, .int .i64 p.frag, .int .i64 p.stripe, .int .i64 p.gen, .int .i64 p.ver, .string p.data]
abbrev Pc.val (p : Pc) : Value := .agg #[.int .i64 p.vol, .int .i64 p.frag, .int .i64 p.stripe, .int .i64 p.gen, .int .i64 p.ver, .string p.data]
structure Wt where
  slot : Int
  pc : Pc
abbrev Wt.val (q : Wt) : Value := .agg #[.int .i64 q.slot, .int .i64 q.pc.vol, .int .i64 q.pc.frag, .int .i64 q.pc.stripe, .int .i64 q.pc.gen, .int .i64 q.pc.ver, .string q.pc.data]
/-- How a piece that was found compares with one that is wanted. -/
def found (p q : Pc) : Int :=
  if p.vol ≠ q.vol ∨ p.frag ≠ q.frag ∨ p.stripe ≠ q.stripe then 4 else if p.ver < q.ver then 5 else if q.ver < p.ver then 6 else if p.gen ≠ q.gen then 7 else 1
/-- The piece of a sector. -/
def pieceOf (l : List UInt8) : Pc := if errOf l = 0 then ⟨fVol l, fFrag l, fStripe l, fGen l, fVer l, ⟨(fData l).toArray⟩⟩ else ⟨0, 0, 0, 0, 0, ⟨#[]⟩⟩
theorem decCells_eq (l : List UInt8) : decCells l = #[.int .i64 (pieceOf l).vol, .int .i64 (pieceOf l).frag, .int .i64 (pieceOf l).stripe, .int .i64 (pieceOf l).gen, .int .i64 (pieceOf l).ver, .string (pieceOf l).data] := by
  unfold decCells pieceOf
  by_cases h : errOf l = 0
  · rw [if_pos h, if_pos h]
  · rw [if_neg h, if_neg h]; rfl
/-- What a slot holds, held against a piece. -/
def seen (x : ByteArray) (q : Pc) : Int :=
  if errOf x.data.toList = 102 then 2 else if errOf x.data.toList ≠ 0 then 3 else found (pieceOf x.data.toList) q
def stateOf (S : Dv) (q : Wt) : Int :=
  if (S.read q.slot).2 = 105 then 9 else if (S.read q.slot).2 = 5 then 10 else if (S.read q.slot).2 ≠ 0 then 8 else seen (S.read q.slot).1 q.pc
theorem pc_one (p : Pc) : ∀ u ∈ p.cells, u.oneCell' = true := by
  intro u hu
  simp at hu
  rcases hu with rfl | rfl | rfl | rfl | rfl | rfl <;> rfl
/-- The mark of a slot. -/
def markOf (s : Int) : ByteArray := ⟨(encL 0 0 0 1 (s + 1) (zeros 16)).toArray⟩
def zero16 : ByteArray := ⟨(zeros 16).toArray⟩
theorem mark_valid (s : Int) (h0 : 0 ≤ s) (h1 : s < 128) : validB 0 0 0 1 (s + 1) zero16.size = true := by
  unfold validB
  rw [decide_eq_true_eq]
  have : zero16.size = 16 := rfl
  omega
set_option maxHeartbeats 1000000 in
theorem mark_prog (s : Int) (w : World) (h0 : 0 ≤ s) (h1 : s < 128) :
    Calls Try.prog 52 #[.int .i64 s] w fun e w' => e = .returned (.string (markOf s)) ∧ Below w.heap.size w w' := by
  have HV := hid (mark_valid s h0 h1)
  go_enter Try.func52, Try.ntmps52
  go_wp2_with fail
  refine (rep_main ⟨#[0]⟩ 16 w (by decide) (by decide) (by decide) (by decide)).mono ?_
  rintro e w1 ⟨rfl, hb1⟩
  rw [show (ByteArray.mk (Lib.repeatL (ByteArray.mk #[0]).data.toList 16).toArray) = zero16 from rfl]
  go_wp2_with fail
  refine (enc_prog_yes 0 0 0 1 (s + 1) zero16 w1 HV.out).mono ?_
  rintro e w2 ⟨rfl, hb2⟩
  go_wp2
  go_ret
  exact ⟨rfl, hb1.trans (hb2.mono hb1.size)⟩
theorem Try.make16m : ∀ w, (Instr.makeSlice 90 (.int .i64 16) (.int .i64 16)).run Try.prog w = .ok (.slice (some ⟨w.heap.size, 0, none⟩) 16 16) (w.alloc (.cells (row (zeros 16)) 5)) := fun _ => by kernel_rfl
set_option maxHeartbeats 1000000 in
theorem mark_ref (s : Int) (w : World) (h0 : 0 ≤ s) (h1 : s < 128) :
    Calls Try.prog 55 #[.int .i64 s] w fun e w' => e = .returned (.string (markOf s)) ∧ Below w.heap.size w w' := by
  have HV := hid (mark_valid s h0 h1)
  have hmk := Try.make16m
  have hcs := run_str (P := Try.prog) 90 5 9 Try.underlying90 Try.underlying5 Try.underlying9 (row_new w (zeros 16) 5) 0 16 16 (by simp [zeros])
  rw [List.drop_zero, List.take_of_length_le (by simp [zeros])] at hcs
  go_enter Try.func55, Try.ntmps55
  go_wp2_with fail
  refine (enc_ref_yes 0 0 0 1 (s + 1) zero16 _ HV.out).mono ?_
  rintro e w2 ⟨rfl, hb2⟩
  go_wp2
  go_ret
  exact ⟨rfl, ((Below.refl _ _).alloc (Nat.le_refl _) _).trans (hb2.mono (by simp))⟩
set_option maxHeartbeats 1000000 in
theorem found_ref (p q : Pc) (w : World) :
    Calls Try.prog 18 #[p.val, q.val] w fun e w' => e = .returned (.int .i64 (found p q)) ∧ Below w.heap.size w w' := by
  have HB : Hid (Below w.heap.size w ((w.alloc (.cells p.cells.toArray 23)).alloc (.cells q.cells.toArray 23))) := hid (((Below.refl _ _).alloc (Nat.le_refl _) _).alloc (by simp) _)
  obtain ⟨r, hr⟩ : ∃ r, found p q = r := ⟨_, rfl⟩
  rw [hr]
  unfold found at hr
  have b1 : (p.vol != q.vol) = decide (p.vol ≠ q.vol) := by by_cases h : p.vol = q.vol <;> simp [h]
  by_cases hv : p.vol = q.vol
  · by_cases hf : p.frag = q.frag
    · by_cases hs : p.stripe = q.stripe
      · rw [if_neg (by simp [hv, hf, hs])] at hr
        have c1 : (p.vol != q.vol) = false := by rw [bne_eq_false_iff_eq]; exact hv
        have c2 : (p.frag != q.frag) = false := by rw [bne_eq_false_iff_eq]; exact hf
        have c3 : (p.stripe != q.stripe) = false := by rw [bne_eq_false_iff_eq]; exact hs
        clear hv hf hs b1
        by_cases h5 : p.ver < q.ver
        · rw [if_pos h5] at hr
          subst hr
          go_enter Try.func18, Try.ntmps18
          go_wp2
          go_ret
          exact ⟨rfl, HB.out⟩
        · rw [if_neg h5] at hr
          by_cases h6 : q.ver < p.ver
          · rw [if_pos h6] at hr
            subst hr
            go_enter Try.func18, Try.ntmps18
            go_wp2
            go_ret
            exact ⟨rfl, HB.out⟩
          · rw [if_neg h6] at hr
            by_cases h7 : p.gen = q.gen
            · rw [if_neg (by simp [h7])] at hr
              subst hr
              have c4 : (p.gen != q.gen) = false := by rw [bne_eq_false_iff_eq]; exact h7
              clear h7
              go_enter Try.func18, Try.ntmps18
              go_wp2
              go_ret
              exact ⟨rfl, HB.out⟩
            · rw [if_pos h7] at hr
              subst hr
              have c4 : (p.gen != q.gen) = true := by rw [bne_iff_ne]; exact h7
              clear h7
              go_enter Try.func18, Try.ntmps18
              go_wp2
              go_ret
              exact ⟨rfl, HB.out⟩
      · rw [if_pos (.inr (.inr hs))] at hr
        subst hr
        have c1 : (p.vol != q.vol) = false := by rw [bne_eq_false_iff_eq]; exact hv
        have c2 : (p.frag != q.frag) = false := by rw [bne_eq_false_iff_eq]; exact hf
        have c3 : (p.stripe != q.stripe) = true := by rw [bne_iff_ne]; exact hs
        clear hv hf hs b1
        go_enter Try.func18, Try.ntmps18
        go_wp2
        go_ret
        exact ⟨rfl, HB.out⟩
    · rw [if_pos (.inr (.inl hf))] at hr
      subst hr
      have c1 : (p.vol != q.vol) = false := by rw [bne_eq_false_iff_eq]; exact hv
      have c2 : (p.frag != q.frag) = true := by rw [bne_iff_ne]; exact hf
      clear hv hf b1
      go_enter Try.func18, Try.ntmps18
      go_wp2
      go_ret
      exact ⟨rfl, HB.out⟩
  · rw [if_pos (.inl hv)] at hr
    subst hr
    have c1 : (p.vol != q.vol) = true := by rw [bne_iff_ne]; exact hv
    clear hv b1
    go_enter Try.func18, Try.ntmps18
    go_wp2
    go_ret
    exact ⟨rfl, HB.out⟩
end Go.Proofs.Ytegekmdechcikaa

/- classify, State, Good, Classify. -/
namespace Go.Proofs.Ytegekmdechcikaa
open Go Go.RowKit Go.Sort

theorem read_small {S : Dv} (hS : S.Ok) (s : Int) : (S.read s).1.size ≤ 36 := by
  unfold Dv.read
  repeat' split
  all_goals first | (show (0 : Nat) ≤ 36; omega) | (rw [S.get_size hS]; omega) | skip
theorem read_err (S : Dv) (s : Int) : (S.read s).2 = 105 ∨ (S.read s).2 = 5 ∨ (S.read s).2 = 107 ∨ (S.read s).2 = 0 := by
  unfold Dv.read
  repeat' split
  all_goals simp
theorem bne_f {a b : Int} (h : a = b) : (a != b) = false := by rw [bne_eq_false_iff_eq]; exact h
theorem bne_t {a b : Int} (h : a ≠ b) : (a != b) = true := by rw [bne_iff_ne]; exact h
theorem beq_f {a b : Int} (h : a ≠ b) : (a == b) = false := by rw [beq_eq_false_iff_ne]; exact h
theorem beq_t {a b : Int} (h : a = b) : (a == b) = true := by rw [beq_iff_eq]; exact h
section
variable {w : World} {o : Own} {a : Nat} {S : Dv}
set_option maxRecDepth 100000 in
set_option maxHeartbeats 2000000 in
theorem classify_any (h : Drv w o a S) (hS : S.Ok) (q : Wt) :
    Calls Try.prog 45 #[.pointer (some ⟨a, 0, none⟩), q.val] w fun e w' => e = .returned (.int .i64 (stateOf S q)) ∧ Below w.heap.size w w' := by
  have HH := hid h
  have HS := hid hS
  have hb1 : Below w.heap.size w (w.alloc (.cells #[.int .i64 q.slot, .int .i64 q.pc.vol, .int .i64 q.pc.frag, .int .i64 q.pc.stripe, .int .i64 q.pc.gen, .int .i64 q.pc.ver, .string q.pc.data] 36)) := (Below.refl _ _).alloc (Nat.le_refl _) _
  have hg1 := heap_alloc_new w (.cells #[Value.int .i64 q.slot, .int .i64 q.pc.vol, .int .i64 q.pc.frag, .int .i64 q.pc.stripe, .int .i64 q.pc.gen, .int .i64 q.pc.ver, .string q.pc.data] 36)
  have H1 := hid (h.below hb1)
  have HB1 := hid hb1
  have HG1 := hid hg1
  have hsm := read_small hS q.slot
  have her := read_err S q.slot
  obtain ⟨st, hst⟩ : ∃ st, stateOf S q = st := ⟨_, rfl⟩
  rw [hst]
  unfold stateOf at hst
  clear h hS hb1 hg1
  go_enter Try.func45, Try.ntmps45
  go_upto_region 1 with fail
  generalize w.alloc (.cells #[.int .i64 q.slot, .int .i64 q.pc.vol, .int .i64 q.pc.frag, .int .i64 q.pc.stripe, .int .i64 q.pc.gen, .int .i64 q.pc.ver, .string q.pc.data] 36) = w1 at *
  have hwq : w.heap.size < w1.heap.size := (Array.getElem?_eq_some_iff.1 HG1.out).1
  have p0 := cell_block HG1.out 0
  simp only [List.getElem?_toArray, List.getElem?_cons_zero] at p0
  go_wp2_with fail
  refine (read_b H1.out HS.out q.slot).mono ?_
  rintro e w2 ⟨rfl, hb2⟩
  generalize (S.read q.slot).1 = x at *
  generalize (S.read q.slot).2 = er at *
  have hw2 := HB1.out.trans (hb2.mono (Nat.le_of_lt hwq))
  have HG2 := hid ((hb2.block _ hwq).trans HG1.out)
  have hwq2 : w.heap.size < w2.heap.size := Nat.lt_of_lt_of_le hwq hb2.size
  clear p0 hb2 HB1 HG1 H1 HH
  rcases her with he | he | he | he
  · subst he
    rw [if_pos rfl] at hst
    subst hst
    go_wp2
    go_ret
    exact ⟨rfl, hw2⟩
  · subst he
    rw [if_neg (by decide), if_pos rfl] at hst
    subst hst
    go_wp2
    go_ret
    exact ⟨rfl, hw2⟩
  · subst he
    rw [if_neg (by decide), if_neg (by decide), if_pos (by decide)] at hst
    subst hst
    go_wp2
    go_ret
    exact ⟨rfl, hw2⟩
  · subst he
    rw [if_neg (by decide), if_neg (by decide), if_neg (by decide)] at hst
    unfold seen at hst
    go_wp2_with fail
    refine (dec_prog x _ (by unfold maxLen; omega)).mono ?_
    rintro e w3 ⟨rfl, hb3⟩
    rw [decCells_eq]
    have hw3 := hw2.trans (hb3.mono (Nat.le_of_lt hwq2))
    have HG3 := hid ((hb3.block _ hwq2).trans HG2.out)
    have hwq3 : w.heap.size < w3.heap.size := Nat.lt_of_lt_of_le hwq2 hb3.size
    clear hb3 HG2 hw2
    generalize pieceOf x.data.toList = p at *
    generalize errOf x.data.toList = er at *
    have z1 := cell_block HG3.out 1
    have z2 := cell_block HG3.out 2
    have z3 := cell_block HG3.out 3
    have z4 := cell_block HG3.out 4
    have z5 := cell_block HG3.out 5
    have z6 := cell_block HG3.out 6
    simp only [List.getElem?_toArray, List.getElem?_cons_zero, List.getElem?_cons_succ] at z1 z2 z3 z4 z5 z6
    go_upto_region 11 with fail
    have HF := hid (show Below w.heap.size w ((w3.alloc (.cells p.cells.toArray 23)).alloc (.cells q.pc.cells.toArray 23)) from (hw3.alloc hw3.size _).alloc (by simp; have := hw3.size; omega) _)
    clear z1 z2 z3 z4 z5 z6 HG3 hw3
    by_cases h2 : er = 102
    · rw [if_pos h2] at hst
      subst hst
      subst h2
      go_wp2
      go_ret
      exact ⟨rfl, HF.out⟩
    · rw [if_neg h2] at hst
      have g2 := beq_f h2
      by_cases h0 : er = 0
      · rw [if_neg (by simp [h0])] at hst
        have g0 := bne_f h0
        clear h2 h0
        unfold found at hst
        by_cases hv : p.vol = q.pc.vol
        · by_cases hf : p.frag = q.pc.frag
          · by_cases hs : p.stripe = q.pc.stripe
            · rw [if_neg (by simp [hv, hf, hs])] at hst
              have c1 := bne_f hv
              have c2 := bne_f hf
              have c3 := bne_f hs
              clear hv hf hs
              by_cases h5 : p.ver < q.pc.ver
              · rw [if_pos h5] at hst
                subst hst
                go_wp2
                go_ret
                exact ⟨rfl, HF.out⟩
              · rw [if_neg h5] at hst
                by_cases h6 : q.pc.ver < p.ver
                · rw [if_pos h6] at hst
                  subst hst
                  go_wp2
                  go_ret
                  exact ⟨rfl, HF.out⟩
                · rw [if_neg h6] at hst
                  by_cases h7 : p.gen = q.pc.gen
                  · rw [if_neg (by simp [h7])] at hst
                    subst hst
                    have c4 := bne_f h7
                    clear h7
                    go_wp2
                    go_ret
                    exact ⟨rfl, HF.out⟩
                  · rw [if_pos h7] at hst
                    subst hst
                    have c4 := bne_t h7
                    clear h7
                    go_wp2
                    go_ret
                    exact ⟨rfl, HF.out⟩
            · rw [if_pos (.inr (.inr hs))] at hst
              subst hst
              have c1 := bne_f hv
              have c2 := bne_f hf
              have c3 := bne_t hs
              clear hv hf hs
              go_wp2
              go_ret
              exact ⟨rfl, HF.out⟩
          · rw [if_pos (.inr (.inl hf))] at hst
            subst hst
            have c1 := bne_f hv
            have c2 := bne_t hf
            clear hv hf
            go_wp2
            go_ret
            exact ⟨rfl, HF.out⟩
        · rw [if_pos (.inl hv)] at hst
          subst hst
          have c1 := bne_t hv
          clear hv
          go_wp2
          go_ret
          exact ⟨rfl, HF.out⟩
      · rw [if_pos h0] at hst
        subst hst
        have g0 := bne_t h0
        clear h2 h0
        go_wp2
        go_ret
        exact ⟨rfl, HF.out⟩
end
end Go.Proofs.Ytegekmdechcikaa

/- Inventory of the program. -/
namespace Go.Proofs.Ytegekmdechcikaa
open Go Go.RowKit Go.Sort

structure Hd where
  slot : Int
  pc : Pc
abbrev Hd.cells (x : Hd) : List Value := [.int .i64 x.slot, .int .i64 x.pc.vol, .int .i64 x.pc.frag, .int .i64 x.pc.stripe, .int .i64 x.pc.gen, .int .i64 x.pc.ver, .string x.pc.data]
def hdCells (l : List Hd) : List Value := l.flatMap Hd.cells
def held1 (S : Dv) (s : Int) : List Hd := if (S.read s).2 = 0 ∧ errOf (S.read s).1.data.toList = 0 then [⟨s, pieceOf (S.read s).1.data.toList⟩] else []
def inv (S : Dv) (n : Nat) : List Hd := (List.range n).flatMap fun (s : Nat) => held1 S (s : Int)
theorem inv_succ (S : Dv) (n : Nat) : inv S (n + 1) = inv S n ++ held1 S (n : Int) := by unfold inv; rw [List.range_succ, List.flatMap_append]; simp
theorem inv_length (S : Dv) (n : Nat) : (inv S n).length ≤ n := by
  induction n with
  | zero => simp [inv]
  | succ n ih =>
    rw [inv_succ, List.length_append]
    have : (held1 S (n : Int)).length ≤ 1 := by unfold held1; split <;> simp
    omega
/-- What Inventory finds. -/
def invOf (S : Dv) : List Hd := if S.online = true then inv S S.claim.toNat else []
theorem Try.info_held : (Try.prog.info? 58).map (fun i => (i.zero, i.size, i.bytes)) = some (some (.agg #[.int .i64 0, .int .i64 0, .int .i64 0, .int .i64 0, .int .i64 0, .int .i64 0, .string ⟨#[]⟩]), 7, 64) := by kernel_rfl
theorem hd_one (x : Hd) : ∀ u ∈ x.cells, u.oneCell' = true := by
  intro u hu
  simp at hu
  rcases hu with rfl | rfl | rfl | rfl | rfl | rfl | rfl <;> rfl
theorem field_on (x y : Bool) (t : Int) (W : World) : (Instr.field 70 (.agg #[.bool x, .bool y, .int .i64 t]) 0).run Try.prog W = .ok (.bool x) W := by kernel_rfl
/-- A list of pieces in memory. -/
abbrev Helds (w : World) (o : Own) (v : Value) (l : List Hd) : Prop := OwnSl w o 7 v l.length (hdCells l)
section
variable {w : World} {o : Own} {a : Nat} {S : Dv}
set_option maxRecDepth 100000 in
set_option maxHeartbeats 2000000 in
theorem inventory_any (h : Drv w o a S) (hS : S.Ok) :
    Calls Try.prog 21 #[.pointer (some ⟨a, 0, none⟩)] w fun e w' => ∃ v, e = .returned (.tuple #[v, .int .i64 (if S.online = true then 0 else 105)]) ∧ Helds w' (New w) v (invOf S) ∧ Below w.heap.size w w' := by
  have HU := hid h.under
  have HH := hid h
  have HS := hid hS
  have hc0 : 1 ≤ S.claim := by have := hS.one; have := hS.le; omega
  have hc1 := hS.top
  clear h hS
  obtain ⟨i0, hi0, hz0, hz1, hz2⟩ := info_parts Try.info_held
  have hfld := fun W => field_on S.online S.dead S.term W
  cases ho : S.online
  case false =>
    have hinv : invOf S = [] := by unfold invOf; rw [if_neg (by simp [ho])]
    rw [hinv, if_neg (by simp)]
    have HO := hid ho
    clear ho hinv
    go_enter Try.func21, Try.ntmps21
    go_wp2_with fail
    refine (status_e HH.out HS.out).mono ?_
    rintro e w1 ⟨rfl, hb1⟩
    rw [HO.out]
    rw [HO.out] at hfld
    go_wp2
    go_ret2
    exact ⟨_, rfl, OwnSl.nil _ _ _, hb1⟩
  case true =>
    have hinv : invOf S = inv S S.claim.toNat := by unfold invOf; rw [if_pos ho]
    rw [hinv, if_pos rfl]
    have HO := hid ho
    clear ho hinv
    obtain ⟨n, hn⟩ := Int.eq_ofNat_of_zero_le (show 0 ≤ S.claim by omega)
    have hn1 : n ≤ 128 := by omega
    have HN := hid hn
    rw [show S.claim.toNat = n by omega]
    clear hn hc0 hc1
    go_enter Try.func21, Try.ntmps21
    go_wp2_with fail
    refine (status_e HH.out HS.out).mono ?_
    rintro e w1 ⟨rfl, hb1⟩
    rw [HO.out]
    rw [HO.out] at hfld
    have H1 := hid (HH.out.below hb1)
    go_wp2_with fail
    refine (claim_e H1.out).mono ?_
    rintro e w2 ⟨rfl, rfl⟩
    rw [HN.out]
    go_wp2_with fail
    go_loopw [4, 16] (fun v i wr => ∃ (k : Nat), k ≤ n ∧ i = .int .i64 k ∧ Helds wr (New w) v (inv S k) ∧ Hid (Drv wr o a S) ∧ Below w.heap.size w wr) (fun _ i _ => (n - intOf i).toNat)
    case atStart => exact ⟨0, Nat.zero_le _, rfl, OwnSl.nil _ _ _, H1, hb1⟩
    case round =>
      clear hb1 H1 hfld
      obtain ⟨k, hk, rfl, hv, HD, hb⟩ := hrel
      by_cases hlt : k < n
      · obtain ⟨A, cap, rfl, hcap⟩ := hv.form
        have hil := inv_length S k
        have hsm := read_small HS.out (k : Int)
        have hnx := inv_succ S k
        have hh1 : held1 S (k : Int) = if (S.read k).2 = 0 ∧ errOf (S.read k).1.data.toList = 0 then [({ slot := k, pc := pieceOf (S.read k).1.data.toList } : Hd)] else [] := rfl
        rw [hh1] at hnx
        have HV := hid hv
        have HNX := hid hnx
        clear hv hnx hh1
        go_wp2_with fail
        refine (read_b HD.out HS.out (k : Int)).mono ?_
        rintro e w3 ⟨rfl, hb3⟩
        generalize (S.read (k : Int)).1 = x at *
        generalize (S.read (k : Int)).2 = er at *
        have HV3 := hid (OwnSl.below HV.out hb3)
        have HD3 := hid (HD.out.below hb3)
        have hw3 := hb.trans (hb3.mono hb.size)
        clear hb3 HV HD hb
        by_cases he : er = 0
        · subst he
          go_wp2_with fail
          refine (dec_prog x _ (by unfold maxLen; omega)).mono ?_
          rintro e w4 ⟨rfl, hb4⟩
          rw [decCells_eq]
          have HV4 := hid (OwnSl.below HV3.out hb4)
          have HD4 := hid (HD3.out.below hb4)
          have hw4 := hw3.trans (hb4.mono hw3.size)
          clear hb4 HV3 HD3 hw3
          generalize pieceOf x.data.toList = p at *
          generalize errOf x.data.toList = ed at *
          have hb5 : Below w4.heap.size w4 (w4.alloc (.cells p.cells.toArray 23)) := (Below.refl _ _).alloc (Nat.le_refl _) _
          have HV5 := hid (OwnSl.below HV4.out hb5)
          have HD5 := hid (HD4.out.below hb5)
          have hw5 := hw4.trans (hb5.mono hw4.size)
          have hg5 := heap_alloc_new w4 (.cells p.cells.toArray 23)
          have hgl : w4.heap.size < (w4.alloc (.cells p.cells.toArray 23)).heap.size := by simp
          go_upto_region 10 with fail
          clear hb5 HV4 HD4 hw4
          generalize w4.alloc (.cells p.cells.toArray 23) = w5 at *
          generalize w4.heap.size = q at *
          by_cases hd : ed = 0
          · have hnx2 : inv S (k + 1) = inv S k ++ [({ slot := k, pc := p } : Hd)] := by rw [HNX.out]; simp [hd]
            subst hd
            have HNX2 := hid hnx2
            have z0 := cell_block hg5 0
            have z1 := cell_block hg5 1
            have z2 := cell_block hg5 2
            have z3 := cell_block hg5 3
            have z4 := cell_block hg5 4
            have z5 := cell_block hg5 5
            simp only [List.getElem?_toArray, List.getElem?_cons_zero, List.getElem?_cons_succ] at z0 z1 z2 z3 z4 z5
            clear hnx2 HNX hg5
            go_wp2_with (at_builtin; refine wpList_append_sl (by rfl) (.tmp 34) (.tmp 38) 44 (by rfl) 58 i0 _ 7 64 Try.underlying44 hi0 hz0 hz1 hz2 rfl (by decide) (New w) _ (.slice (some ⟨w5.heap.size, 0, none⟩) 1 1) (inv S k).length 1 (hdCells (inv S k)) (Hd.cells { slot := k, pc := p }) (by rfl) (by rfl) (HV5.out.below ((Below.refl _ _).alloc (Nat.le_refl _) _)) ⟨rfl, .inr ⟨_, 1, rfl, World.news_of_block (cs := (Hd.cells { slot := k, pc := p }).toArray) (fr := (0, 0)) (heap_alloc_new w5 _)⟩⟩ (hd_one _) (by unfold maxLen; omega) (by omega) ?_)
            intro v6 w6 hown6 hgrow
            have hsz5 := hw5.size
            have hb6 : Below w.heap.size w w6 := (hw5.alloc hsz5 _).trans (hgrow.below (fun k e => e) (by simp; omega))
            have hown7 := hid (show Helds w6 (New w) v6 (inv S (k + 1)) by
              rw [HNX2.out]
              show OwnSl _ _ _ _ (inv S k ++ [({ slot := k, pc := p } : Hd)]).length (hdCells (inv S k ++ [({ slot := k, pc := p } : Hd)]))
              rw [List.length_append, show hdCells (inv S k ++ [({ slot := k, pc := p } : Hd)]) = hdCells (inv S k) ++ Hd.cells { slot := k, pc := p } by simp [hdCells]]
              exact hown6.mono (fun x e => by rcases e with e | e; exact e; simp at e; unfold New; omega))
            have hbl6 : Fr (New w) w5 w6 := (Fr.refl (New w) w5).alloc _ |>.trans (fun _ e => .inl e) hgrow
            have HD6 := hid (HD5.out.fr hbl6 (fun k a b => by have := HU.out k a; unfold New at b; omega))
            clear hown6 hgrow hbl6 HV5 HD5 hw5
            go_wp2
            go_roundw
            case rel => exact ⟨k + 1, by omega, by go_num, hown7.out, HD6, hb6⟩
            case measure => (simp [intOf]; try omega)
          · have hnx2 : inv S (k + 1) = inv S k := by rw [HNX.out, if_neg (by rintro ⟨_, h⟩; exact hd h), List.append_nil]
            have hd2 := beq_f hd
            clear HNX hd hg5 hgl
            go_wp2
            go_roundw
            case rel => exact ⟨k + 1, by omega, by go_num, by rw [hnx2]; exact HV5.out, HD5, hw5⟩
            case measure => (simp [intOf]; try omega)
        · have hnx2 : inv S (k + 1) = inv S k := by rw [HNX.out, if_neg (by rintro ⟨h, _⟩; exact he h), List.append_nil]
          have hd2 := bne_t he
          have HNX2 := hid hnx2
          clear HNX he hnx2
          go_wp2
          go_roundw
          case rel => exact ⟨k + 1, by omega, by go_num, by rw [HNX2.out]; exact HV3.out, HD3, hw3⟩
          case measure => (simp [intOf]; try omega)
      · obtain rfl : k = n := by omega
        go_wp2
        go_ret2
        exact ⟨_, rfl, hv, hb⟩
end
end Go.Proofs.Ytegekmdechcikaa
