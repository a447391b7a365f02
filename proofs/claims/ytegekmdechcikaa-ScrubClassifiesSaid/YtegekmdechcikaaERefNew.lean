/- New of the reference's drive. -/
import Derived.Test.YtegekmdechcikaaERef4
namespace Go.Proofs.Ytegekmdechcikaa
open Go Go.RowKit Go.Sort

theorem Try.info_rsec : (Try.prog.info? 117).map (fun i => (i.zero, i.size, i.bytes)) = some (some (.agg #[.string ⟨#[]⟩, .bool false, .bool false]), 3, 24) := by kernel_rfl
theorem sec_cells_one (s : Sec) : ∀ u ∈ s.cells, u.oneCell' = true := by intro u hu; simp [Sec.cells] at hu; rcases hu with rfl | rfl | rfl <;> rfl
set_option maxHeartbeats 1000000 in
theorem ref_new_no (c r : Int) (w : World) (h : r < 1 ∨ c < r ∨ 128 < c) :
    Calls Try.prog 69 #[.int .i64 c, .int .i64 r] w fun e w' => e = .returned (.tuple #[.pointer none, .int .i64 5]) ∧ w = w' := by
  go_enter Try.func69, Try.ntmps69
  by_cases h1 : r < 1
  · go_wp2
    go_ret2
    exact ⟨rfl, rfl⟩
  · by_cases h2 : c < r
    · go_wp2
      go_ret2
      exact ⟨rfl, rfl⟩
    · have h3 : 128 < c := by omega
      go_wp2
      go_ret2
      exact ⟨rfl, rfl⟩
set_option maxRecDepth 100000 in
set_option maxHeartbeats 2000000 in
theorem ref_new (c : Int) (r : Nat) (w : World) (h1 : 1 ≤ r) (h2 : (r : Int) ≤ c) (h3 : c ≤ 128) :
    Calls Try.prog 69 #[.int .i64 c, .int .i64 r] w fun e w' => ∃ a, e = .returned (.tuple #[.pointer (some ⟨a, 0, none⟩), .int .i64 0]) ∧ Ref w' (Grow NoOwn w w') a (newDv c r) ∧ Below w.heap.size w w' := by
  obtain ⟨i0, hi0, hz0, hz1, hz2⟩ := info_parts Try.info_rsec
  go_enter Try.func69, Try.ntmps69
  go_upto_region 4 with fail
  have hv := vals_new w [.int .i64 c, .slice none 0 0, .bool true, .bool false, .int .i64 0, .slice none 0 0] 67
  have hb0 : Below w.heap.size w (w.alloc (.cells #[.int .i64 c, .slice none 0 0, .bool true, .bool false, .int .i64 0, .slice none 0 0] 67)) := (Below.refl _ _).alloc (Nat.le_refl _) _
  have HV0 := hid hv
  have HB0 := hid hb0
  clear hv hb0
  generalize w.alloc (.cells #[.int .i64 c, .slice none 0 0, .bool true, .bool false, .int .i64 0, .slice none 0 0] 67) = w0 at HV0 HB0 ⊢
  go_wp2_with fail
  go_loopw [7] (fun i wr => ∃ (k : Nat) (A : Option Addr) (cap : Nat), k ≤ r ∧ i = .int .i64 k ∧ Off0 (.slice A k cap) ∧ ValsAt wr w.heap.size [.int .i64 c, .slice A k cap, .bool true, .bool false, .int .i64 0, .slice none 0 0] ∧ OwnSl wr (fun x => w.heap.size < x) 3 (.slice A k cap) k (secCells (List.replicate k blankSec)) ∧ Below w.heap.size w wr) (fun i _ => (r - intOf i).toNat)
  case atStart => exact ⟨0, none, 0, Nat.zero_le _, rfl, off0_nil, HV0.out, OwnSl.nil _ _ _, HB0.out⟩
  case round =>
    clear HV0 HB0
    obtain ⟨k, A, cap, hk, rfl, hoff, hv, hown, hb⟩ := hrel
    by_cases hlt : k < r
    · have c1 := hv.cell 1 (by simp)
      have f1 := hv.free 1 (by simp)
      simp only [List.getElem_cons_succ, List.getElem_cons_zero] at c1
      have hvl := hv.lt
      have HV := hid hv
      have HOWN := hid hown
      have HB := hid hb
      have HOFF := hid hoff
      clear hv hown hb hoff
      go_upto_region 7 with fail
      have hvd : w.heap.size < wr.drew.heap.size := hvl
      go_region_law (first
        | (refine step_append_sl0 (by rfl) _ _ _ (by rfl) 117 i0 _ 3 24 Try.underlying64 hi0 hz0 hz1 hz2 rfl (by omega) (fun x => w.heap.size < x) _ _ k 1 (secCells (List.replicate k blankSec)) (Sec.cells blankSec) (by rfl) (by rfl) HO2.out HS2.out (sec_cells_one _) (by unfold maxLen; omega) (by omega) ?_; intro v3 w3 hown3 hgrow hoff3; obtain ⟨A3, cap3, rfl, hc3⟩ := hown3.form; have g3 := (hgrow.cell_far ⟨w.heap.size, 1, none⟩ (Nat.lt_of_lt_of_le hvd HB2.out.size) (Nat.lt_irrefl _)).trans ((HB2.out.cell (p := ⟨w.heap.size, 1, none⟩) hvd).trans c1); have gf3 := (hgrow.frozen_far ⟨w.heap.size, 1, none⟩ (Nat.lt_of_lt_of_le hvd HB2.out.size) (Nat.lt_irrefl _)).trans ((HB2.out.frozen (p := ⟨w.heap.size, 1, none⟩) hvd).trans f1))
        | (go_simp; go_at_call 28; refine (blank_b _).mono ?_; rintro e w1 ⟨rfl, hb1⟩; have g1 := (hb1.cell (p := ⟨w.heap.size, 1, none⟩) hvd).trans c1; have hba : Below wr.drew.heap.size wr.drew (w1.alloc (.cells #[.string blank, .bool false, .bool false] 117)) := hb1.alloc hb1.size _; have g2 := (hba.cell (p := ⟨w.heap.size, 1, none⟩) hvd).trans c1; have HB2 := hid hba; have HO2 := hid (OwnSl.below (w := wr.drew) HOWN.out hba); have HS2 := hid (show Src (w1.alloc (.cells #[.string blank, .bool false, .bool false] 117)) 3 (.slice (some ⟨w1.heap.size, 0, none⟩) 1 1) 1 (Sec.cells blankSec) from ⟨rfl, .inr ⟨_, 1, rfl, World.news_of_block (cs := #[.string blank, .bool false, .bool false]) (fr := (0, 0)) (heap_alloc_new w1 _)⟩⟩); clear hba hb1))
      all_goals
        have hszA : wr.heap.size ≤ (w1.alloc (.cells #[.string blank, .bool false, .bool false] 117)).heap.size := HB2.out.size
        have hv3 := ((ValsAt.below (w := wr.drew) (HV.out.below ((Below.refl _ _).drew) hvl) HB2.out hvd).fr hgrow (Nat.lt_irrefl _)).store 1 (.slice A3 (k + 1) cap3) (by simp)
        have ho3 := (hown3.mono (o2 := fun x => w.heap.size < x) (fun x e => by
          rcases e with e | e
          · exact e
          · exact Nat.lt_of_lt_of_le (Nat.lt_of_lt_of_le hvl hszA) e.1)).poke ⟨w.heap.size, 1, none⟩ (.slice A3 (k + 1) cap3) (Nat.lt_irrefl _)
        have hb3 : Below w.heap.size w (w3.setCell ⟨w.heap.size, 1, none⟩ (.slice A3 (k + 1) cap3)) := ((HB.out.drew.trans (HB2.out.mono HB.out.size)).trans (hgrow.below (fun x e => Nat.le_of_lt e) (Nat.le_trans HB.out.size hszA))).setCell (Nat.le_refl _) _
        have hs3 : secCells (List.replicate k blankSec) ++ Sec.cells blankSec = secCells (List.replicate (k + 1) blankSec) := by rw [List.replicate_succ']; simp [secCells]
        rw [hs3] at ho3
        have HV3 := hid hv3
        have HO3 := hid ho3
        have HB3 := hid hb3
        have HF3 := hid (hoff3 HOFF.out)
        clear hv3 ho3 hb3 hs3 hown3 hgrow hoff3 g3 gf3 HV HOWN HB HB2 HO2 HS2
        go_wp2
        go_roundw
        case rel => exact ⟨k + 1, A3, cap3, by omega, by go_num, HF3.out, HV3.out, HO3.out, HB3.out⟩
        case measure => (simp [intOf]; try omega)
    · obtain rfl : k = r := by omega
      have HV := hid hv
      have HOWN := hid hown
      have HB := hid hb
      have hA : ∃ b, A = some ⟨b, 0, none⟩ := by
        obtain ⟨g, off, cap', e, _⟩ := hown.some_ (by omega)
        injection e with e1 _ _
        subst e1
        have := hoff ⟨g, off, none⟩ k cap rfl
        exact ⟨g, by rw [show off = 0 from this]⟩
      obtain ⟨b, rfl⟩ := hA
      clear hv hown hb hoff
      go_wp2
      go_ret2
      refine ⟨w.heap.size, rfl, ⟨⟨c, List.replicate k blankSec, true, false, 0, []⟩, ⟨NoOwn, b, cap, .slice none 0 0, ?_⟩, ⟨rfl, rfl, rfl, rfl, rfl, rfl, fun _ => rfl⟩⟩, HB.out⟩
      have hlen : (List.replicate k blankSec).length = k := by simp
      have ho2 := HOWN.out
      rw [show (Value.slice (some ⟨b, 0, none⟩) k cap) = Value.slice (some ⟨b, 0, none⟩) (List.replicate k blankSec).length cap by rw [hlen]] at ho2
      obtain ⟨g, off, cap', e, hog, hgl, hnc, hcm, _⟩ := HOWN.out.some_ (by omega)
      injection e with e1 _ e3
      injection e1 with e1
      injection e1 with e1 e2
      subst e1; subst e3
      refine ⟨by rw [hlen]; exact HV.out, secs_of_own (p := fun x => w.heap.size < x) (c := cap) (by rw [hlen]; exact HOWN.out), ?_, OwnSl.nil _ _ _, fun e => e, fun e => e, fun _ e => e.elim, .inr ⟨Nat.le_refl _, HV.out.lt⟩, .inr ⟨Nat.le_of_lt hog, hgl⟩, ?_, ?_⟩
      · exact Nat.ne_of_lt hog
      · intro k e
        rcases e with e | e
        · exact e.elim
        · exact e.2
      · rw [hlen]; exact ⟨hnc, hcm⟩
end Go.Proofs.Ytegekmdechcikaa
