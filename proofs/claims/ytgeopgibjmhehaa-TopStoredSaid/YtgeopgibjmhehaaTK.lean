/- Pieces that are wanted and found; the marks. -/
import Derived.Test.YtgeopgibjmhehaaTI
import Derived.Test.YtgeopgibjmhehaaTJ
namespace Go.Proofs.Ytgeopgibjmhehaa
open Go Go.RowKit Go.Sort

structure Pc where
  vol : Int
  frag : Int
  stripe : Int
  gen : Int
  ver : Int
  data : ByteArray
abbrev Pc.cells (p : Pc) : List Value := [.int .i64 p.vol, .int .i64 p.frag, .int .i64 p.stripe, .int .i64 p.gen, .int .i64 p.ver, .string p.data]
abbrev Pc.val (p : Pc) : Value := .agg #[.int .i64 p.vol, .int .i64 p.frag, .int .i64 p.stripe, .int .i64 p.gen, .int .i64 p.ver, .string p.data]
structure Wt where
  slot : Int
  pc : Pc
abbrev Wt.val (q : Wt) : Value := .agg #[.int .i64 q.slot, .int .i64 q.pc.vol, .int .i64 q.pc.frag, .int .i64 q.pc.stripe, .int .i64 q.pc.gen, .int .i64 q.pc.ver, .string q.pc.data]
/-- How a piece that was found compares with one that is wanted. -/
def found (p q : Pc) : Int :=
  if p.vol ≠ q.vol ∨ p.frag ≠ q.frag ∨ p.stripe ≠ q.stripe then 4 else if p.ver < q.ver then 5 else if q.ver < p.ver then 6 else if p.gen ≠ q.gen then 7 else 1
/-- The piece of a sector. -/
def pieceOf (l : List UInt8) : Pc := if errOf l = 0 then ⟨fVol l, fFrag l, fStripe l, fGen l, fVer l, ⟨(fData l).toArray⟩⟩ else ⟨0, 0, 0, 0, 0, ⟨#[]⟩⟩
theorem decCells_eq (l : List UInt8) : decCells l = #[.int .i64 (pieceOf l).vol, .int .i64 (pieceOf l).frag, .int .i64 (pieceOf l).stripe, .int .i64 (pieceOf l).gen, .int .i64 (pieceOf l).ver, .string (pieceOf l).data] := by
  unfold decCells pieceOf
  by_cases h : errOf l = 0
  · rw [if_pos h, if_pos h]
  · rw [if_neg h, if_neg h]; rfl
/-- What a slot holds, held against a piece. -/
def seen (x : ByteArray) (q : Pc) : Int :=
  if errOf x.data.toList = 102 then 2 else if errOf x.data.toList ≠ 0 then 3 else found (pieceOf x.data.toList) q
def stateOf (S : Dv) (q : Wt) : Int :=
  if (S.read q.slot).2 = 105 then 9 else if (S.read q.slot).2 = 5 then 10 else if (S.read q.slot).2 ≠ 0 then 8 else seen (S.read q.slot).1 q.pc
theorem pc_one (p : Pc) : ∀ u ∈ p.cells, u.oneCell' = true := by
  intro u hu
  simp at hu
  rcases hu with rfl | rfl | rfl | rfl | rfl | rfl <;> rfl
/-- The mark of a slot. -/
def markOf (s : Int) : ByteArray := ⟨(encL 0 0 0 1 (s + 1) (zeros 16)).toArray⟩
def zero16 : ByteArray := ⟨(zeros 16).toArray⟩
theorem mark_valid (s : Int) (h0 : 0 ≤ s) (h1 : s < 128) : validB 0 0 0 1 (s + 1) zero16.size = true := by
  unfold validB
  rw [decide_eq_true_eq]
  have : zero16.size = 16 := rfl
  omega
theorem Try.make16m : ∀ w, (Instr.makeSlice 22 (.int .i64 16) (.int .i64 16)).run Try.prog w = .ok (.slice (some ⟨w.heap.size, 0, none⟩) 16 16) (w.alloc (.cells (row (zeros 16)) 5)) := fun _ => by kernel_rfl
end Go.Proofs.Ytgeopgibjmhehaa

/- classify, State, Good, Classify. -/
namespace Go.Proofs.Ytgeopgibjmhehaa
open Go Go.RowKit Go.Sort

theorem read_small {S : Dv} (hS : S.Ok) (s : Int) : (S.read s).1.size ≤ 36 := by
  unfold Dv.read
  repeat' split
  all_goals first | (show (0 : Nat) ≤ 36; omega) | (rw [S.get_size hS]; omega) | skip
theorem read_err (S : Dv) (s : Int) : (S.read s).2 = 105 ∨ (S.read s).2 = 5 ∨ (S.read s).2 = 107 ∨ (S.read s).2 = 0 := by
  unfold Dv.read
  repeat' split
  all_goals simp
theorem bne_f {a b : Int} (h : a = b) : (a != b) = false := by rw [bne_eq_false_iff_eq]; exact h
theorem bne_t {a b : Int} (h : a ≠ b) : (a != b) = true := by rw [bne_iff_ne]; exact h
theorem beq_f {a b : Int} (h : a ≠ b) : (a == b) = false := by rw [beq_eq_false_iff_ne]; exact h
theorem beq_t {a b : Int} (h : a = b) : (a == b) = true := by rw [beq_iff_eq]; exact h
section
variable {w : World} {o : Own} {a : Nat} {S : Dv}
end
end Go.Proofs.Ytgeopgibjmhehaa

/- Inventory of the program. -/
namespace Go.Proofs.Ytgeopgibjmhehaa
open Go Go.RowKit Go.Sort

structure Hd where
  slot : Int
  pc : Pc
abbrev Hd.cells (x : Hd) : List Value := [.int .i64 x.slot, .int .i64 x.pc.vol, .int .i64 x.pc.frag, .int .i64 x.pc.stripe, .int .i64 x.pc.gen, .int .i64 x.pc.ver, .string x.pc.data]
def hdCells (l : List Hd) : List Value := l.flatMap Hd.cells
def held1 (S : Dv) (s : Int) : List Hd := if (S.read s).2 = 0 ∧ errOf (S.read s).1.data.toList = 0 then [⟨s, pieceOf (S.read s).1.data.toList⟩] else []
def inv (S : Dv) (n : Nat) : List Hd := (List.range n).flatMap fun (s : Nat) => held1 S (s : Int)
theorem inv_succ (S : Dv) (n : Nat) : inv S (n + 1) = inv S n ++ held1 S (n : Int) := by unfold inv; rw [List.range_succ, List.flatMap_append]; simp
theorem inv_length (S : Dv) (n : Nat) : (inv S n).length ≤ n := by
  induction n with
  | zero => simp [inv]
  | succ n ih =>
    rw [inv_succ, List.length_append]
    have : (held1 S (n : Int)).length ≤ 1 := by unfold held1; split <;> simp
    omega
/-- What Inventory finds. -/
def invOf (S : Dv) : List Hd := if S.online = true then inv S S.claim.toNat else []
theorem Try.info_held : (Try.prog.info? 48).map (fun i => (i.zero, i.size, i.bytes)) = some (some (.agg #[.int .i64 0, .int .i64 0, .int .i64 0, .int .i64 0, .int .i64 0, .int .i64 0, .string ⟨#[]⟩]), 7, 64) := by kernel_rfl
theorem hd_one (x : Hd) : ∀ u ∈ x.cells, u.oneCell' = true := by
  intro u hu
  simp at hu
  rcases hu with rfl | rfl | rfl | rfl | rfl | rfl | rfl <;> rfl
theorem field_on (x y : Bool) (t : Int) (W : World) : (Instr.field 73 (.agg #[.bool x, .bool y, .int .i64 t]) 0).run Try.prog W = .ok (.bool x) W := by kernel_rfl
/-- A list of pieces in memory. -/
abbrev Helds (w : World) (o : Own) (v : Value) (l : List Hd) : Prop := OwnSl w o 7 v l.length (hdCells l)
section
variable {w : World} {o : Own} {a : Nat} {S : Dv}
set_option maxRecDepth 100000 in
set_option maxHeartbeats 2000000 in
theorem inventory_any (h : Drv w o a S) (hS : S.Ok) :
    Calls Try.prog 12 #[.pointer (some ⟨a, 0, none⟩)] w fun e w' => ∃ v, e = .returned (.tuple #[v, .int .i64 (if S.online = true then 0 else 105)]) ∧ Helds w' (New w) v (invOf S) ∧ Below w.heap.size w w' := by
  have HU := hid h.under
  have HH := hid h
  have HS := hid hS
  have hc0 : 1 ≤ S.claim := by have := hS.one; have := hS.le; omega
  have hc1 := hS.top
  clear h hS
  obtain ⟨i0, hi0, hz0, hz1, hz2⟩ := info_parts Try.info_held
  have hfld := fun W => field_on S.online S.dead S.term W
  cases ho : S.online
  case false =>
    have hinv : invOf S = [] := by unfold invOf; rw [if_neg (by simp [ho])]
    rw [hinv, if_neg (by simp)]
    have HO := hid ho
    clear ho hinv
    go_enter Try.func12, Try.ntmps12
    go_wp2_with fail
    refine (status_e HH.out HS.out).mono ?_
    rintro e w1 ⟨rfl, hb1⟩
    rw [HO.out]
    rw [HO.out] at hfld
    go_wp2
    go_ret2
    exact ⟨_, rfl, OwnSl.nil _ _ _, hb1⟩
  case true =>
    have hinv : invOf S = inv S S.claim.toNat := by unfold invOf; rw [if_pos ho]
    rw [hinv, if_pos rfl]
    have HO := hid ho
    clear ho hinv
    obtain ⟨n, hn⟩ := Int.eq_ofNat_of_zero_le (show 0 ≤ S.claim by omega)
    have hn1 : n ≤ 128 := by omega
    have HN := hid hn
    rw [show S.claim.toNat = n by omega]
    clear hn hc0 hc1
    go_enter Try.func12, Try.ntmps12
    go_wp2_with fail
    refine (status_e HH.out HS.out).mono ?_
    rintro e w1 ⟨rfl, hb1⟩
    rw [HO.out]
    rw [HO.out] at hfld
    have H1 := hid (HH.out.below hb1)
    go_wp2_with fail
    refine (claim_e H1.out).mono ?_
    rintro e w2 ⟨rfl, rfl⟩
    rw [HN.out]
    go_wp2_with fail
    go_loopw [4, 16] (fun v i wr => ∃ (k : Nat), k ≤ n ∧ i = .int .i64 k ∧ Helds wr (New w) v (inv S k) ∧ Hid (Drv wr o a S) ∧ Below w.heap.size w wr) (fun _ i _ => (n - intOf i).toNat)
    case atStart => exact ⟨0, Nat.zero_le _, rfl, OwnSl.nil _ _ _, H1, hb1⟩
    case round =>
      clear hb1 H1 hfld
      obtain ⟨k, hk, rfl, hv, HD, hb⟩ := hrel
      by_cases hlt : k < n
      · obtain ⟨A, cap, rfl, hcap⟩ := hv.form
        have hil := inv_length S k
        have hsm := read_small HS.out (k : Int)
        have hnx := inv_succ S k
        have hh1 : held1 S (k : Int) = if (S.read k).2 = 0 ∧ errOf (S.read k).1.data.toList = 0 then [({ slot := k, pc := pieceOf (S.read k).1.data.toList } : Hd)] else [] := rfl
        rw [hh1] at hnx
        have HV := hid hv
        have HNX := hid hnx
        clear hv hnx hh1
        go_wp2_with fail
        refine (read_b HD.out HS.out (k : Int)).mono ?_
        rintro e w3 ⟨rfl, hb3⟩
        generalize (S.read (k : Int)).1 = x at *
        generalize (S.read (k : Int)).2 = er at *
        have HV3 := hid (OwnSl.below HV.out hb3)
        have HD3 := hid (HD.out.below hb3)
        have hw3 := hb.trans (hb3.mono hb.size)
        clear hb3 HV HD hb
        by_cases he : er = 0
        · subst he
          go_wp2_with fail
          refine (dec_prog x _ (by unfold maxLen; omega)).mono ?_
          rintro e w4 ⟨rfl, hb4⟩
          rw [decCells_eq]
          have HV4 := hid (OwnSl.below HV3.out hb4)
          have HD4 := hid (HD3.out.below hb4)
          have hw4 := hw3.trans (hb4.mono hw3.size)
          clear hb4 HV3 HD3 hw3
          generalize pieceOf x.data.toList = p at *
          generalize errOf x.data.toList = ed at *
          have hb5 : Below w4.heap.size w4 (w4.alloc (.cells p.cells.toArray 35)) := (Below.refl _ _).alloc (Nat.le_refl _) _
          have HV5 := hid (OwnSl.below HV4.out hb5)
          have HD5 := hid (HD4.out.below hb5)
          have hw5 := hw4.trans (hb5.mono hw4.size)
          have hg5 := heap_alloc_new w4 (.cells p.cells.toArray 35)
          have hgl : w4.heap.size < (w4.alloc (.cells p.cells.toArray 35)).heap.size := by simp
          go_upto_region 10 with fail
          clear hb5 HV4 HD4 hw4
          generalize w4.alloc (.cells p.cells.toArray 35) = w5 at *
          generalize w4.heap.size = q at *
          by_cases hd : ed = 0
          · have hnx2 : inv S (k + 1) = inv S k ++ [({ slot := k, pc := p } : Hd)] := by rw [HNX.out]; simp [hd]
            subst hd
            have HNX2 := hid hnx2
            have z0 := cell_block hg5 0
            have z1 := cell_block hg5 1
            have z2 := cell_block hg5 2
            have z3 := cell_block hg5 3
            have z4 := cell_block hg5 4
            have z5 := cell_block hg5 5
            simp only [List.getElem?_toArray, List.getElem?_cons_zero, List.getElem?_cons_succ] at z0 z1 z2 z3 z4 z5
            clear hnx2 HNX hg5
            go_wp2_with (at_builtin; refine wpList_append_sl (by rfl) (.tmp 34) (.tmp 38) 44 (by rfl) 48 i0 _ 7 64 Try.underlying44 hi0 hz0 hz1 hz2 rfl (by decide) (New w) _ (.slice (some ⟨w5.heap.size, 0, none⟩) 1 1) (inv S k).length 1 (hdCells (inv S k)) (Hd.cells { slot := k, pc := p }) (by rfl) (by rfl) (HV5.out.below ((Below.refl _ _).alloc (Nat.le_refl _) _)) ⟨rfl, .inr ⟨_, 1, rfl, World.news_of_block (cs := (Hd.cells { slot := k, pc := p }).toArray) (fr := (0, 0)) (heap_alloc_new w5 _)⟩⟩ (hd_one _) (by unfold maxLen; omega) (by omega) ?_)
            intro v6 w6 hown6 hgrow
            have hsz5 := hw5.size
            have hb6 : Below w.heap.size w w6 := (hw5.alloc hsz5 _).trans (hgrow.below (fun k e => e) (by simp; omega))
            have hown7 := hid (show Helds w6 (New w) v6 (inv S (k + 1)) by
              rw [HNX2.out]
              show OwnSl _ _ _ _ (inv S k ++ [({ slot := k, pc := p } : Hd)]).length (hdCells (inv S k ++ [({ slot := k, pc := p } : Hd)]))
              rw [List.length_append, show hdCells (inv S k ++ [({ slot := k, pc := p } : Hd)]) = hdCells (inv S k) ++ Hd.cells { slot := k, pc := p } by simp [hdCells]]
              exact hown6.mono (fun x e => by rcases e with e | e; exact e; simp at e; unfold New; omega))
            have hbl6 : Fr (New w) w5 w6 := (Fr.refl (New w) w5).alloc _ |>.trans (fun _ e => .inl e) hgrow
            have HD6 := hid (HD5.out.fr hbl6 (fun k a b => by have := HU.out k a; unfold New at b; omega))
            clear hown6 hgrow hbl6 HV5 HD5 hw5
            go_wp2
            go_roundw
            case rel => exact ⟨k + 1, by omega, by go_num, hown7.out, HD6, hb6⟩
            case measure => (simp [intOf]; try omega)
          · have hnx2 : inv S (k + 1) = inv S k := by rw [HNX.out, if_neg (by rintro ⟨_, h⟩; exact hd h), List.append_nil]
            have hd2 := beq_f hd
            clear HNX hd hg5 hgl
            go_wp2
            go_roundw
            case rel => exact ⟨k + 1, by omega, by go_num, by rw [hnx2]; exact HV5.out, HD5, hw5⟩
            case measure => (simp [intOf]; try omega)
        · have hnx2 : inv S (k + 1) = inv S k := by rw [HNX.out, if_neg (by rintro ⟨h, _⟩; exact he h), List.append_nil]
          have hd2 := bne_t he
          have HNX2 := hid hnx2
          clear HNX he hnx2
          go_wp2
          go_roundw
          case rel => exact ⟨k + 1, by omega, by go_num, by rw [HNX2.out]; exact HV3.out, HD3, hw3⟩
          case measure => (simp [intOf]; try omega)
      · obtain rfl : k = n := by omega
        go_wp2
        go_ret2
        exact ⟨_, rfl, hv, hb⟩
end
end Go.Proofs.Ytgeopgibjmhehaa
