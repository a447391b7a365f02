/- The maker: Fleet. -/
import Derived.Test.YtpoaadjhaknhdaaMF
import Derived.Test.YtpoaadjhaknhdaaW30
import Derived.Deep.LoopGhost
import Derived.Test.YtpoaadjhaknhdaaMG
namespace Go.Proofs.Ytpoaadjhaknhdaa
open Go Go.RowKit Go.Sort Go.Deep

theorem Mk.init {w w2 : World} {gt gr I : Nat} {ex : Int} (ht : TapeAt w2 gt I) (hres : w2.heap[gr]? = some (.cells zeroFleet 33 (0, 0))) (hlt : gt < gr) (hb : Below gt w w2) :
    Mk (fun _ => True) 0 gt gr w2.heap.size w (w2.alloc (.cells (fleetArr ex nilV nilV nilV nilV nilV nilV) 33)) I ex nilV nilV (fun _ => nilV) (fun _ => 0) (fun k => k = gt ∨ k = gr ∨ k = w2.heap.size) (fun _ => NoOwn) := by
  have hgr := (Array.getElem?_eq_some_iff.1 hres).1
  have hW : Below w2.heap.size w2 (w2.alloc (.cells (fleetArr ex nilV nilV nilV nilV nilV nilV) 33)) := (Below.refl _ _).alloc (Nat.le_refl _) _
  have hsz : (w2.alloc (.cells (fleetArr ex nilV nilV nilV nilV nilV nilV) 33)).heap.size = w2.heap.size + 1 := by simp
  refine ⟨ht.below hW, (hW.block gr hgr).trans hres, heap_alloc_new w2 _, fun i hi => ⟨[], rfl, RowsOwn.nil _ _ _, fun j hj => by cases hj⟩, fun i j _ _ _ k a _ => a.elim, fun i hi k a => a.elim, ⟨.inl rfl, .inr (.inl rfl), .inr (.inr rfl)⟩, fun k e => ?_, fun k e => ?_, fun _ _ => trivial, ⟨hlt, hgr⟩, hb.trans (hW.mono (Nat.le_of_lt ht.lt))⟩
  · have := ht.lt
    rw [hsz]
    rcases e with e | e | e <;> omega
  · have := ht.lt
    rcases e with e | e | e <;> omega
theorem frat_step {w0 w : World} {u v : Value} {a b : Nat} (hs : Sup2 w0 w u v a b) (hb : 0 < b) (h0 : w0.heap.size ≤ w.heap.size) : SupU w0 (w.alloc (.cells #[.bool false, u, v] 48)) fun w' => FrAt w' w.heap.size 0 :=
  ((hs.u.below ((Below.refl _ _).alloc (Nat.le_refl _) _)).and (SupU.block h0 (heap_alloc_new w _))).imp fun _ h => frat_new h.2 h.1 hb
theorem Try.info_drv : (Try.prog.info? 73).map (fun i => (i.zero, i.size, i.bytes)) = some (some (.agg #[.string ⟨#[]⟩, .int .i64 0, .int .i64 0]), 3, 32) := by kernel_rfl
theorem Try.info_vol : (Try.prog.info? 52).map (fun i => (i.zero, i.size, i.bytes)) = some (some (.agg #[.string ⟨#[]⟩, .int .i64 0]), 2, 24) := by kernel_rfl
theorem Try.info_fr : (Try.prog.info? 48).map (fun i => (i.zero, i.size, i.bytes)) = some (some (.agg #[.bool false, .slice none 0 0, .slice none 0 0]), 3, 56) := by kernel_rfl
def TT (vo u1 v1 u2 v2 : Value) (w' : World) : Prop := (∃ m, NumsAt w' vo m) ∧ (∃ a b, One w' u1 a ∧ One w' v1 b ∧ 0 < b) ∧ ∃ a b, One w' u2 a ∧ One w' v2 b ∧ 0 < b
theorem nums_block {w : World} {g : Nat} {l : List Int} (h : w.heap[g]? = some (.cells (intVals l).toArray 3 (0, 0))) (hl : l.length ≤ 100) : NumsAt w (.slice (some ⟨g, 0, none⟩) l.length l.length) l.length := by
  refine ⟨_, _, rfl, Nat.le_refl _, by unfold maxLen; omega, fun _ => ⟨g, 0, rfl, (Array.getElem?_eq_some_iff.1 h).1, fun j hj => ⟨l[j], ?_⟩⟩⟩
  rw [Nat.zero_add, cell_block h j, List.getElem?_toArray]
  simp [intVals, hj]
def FleetPost (w : World) (gt : Nat) (e : Ending) (w' : World) : Prop := ∃ ex vl vm vd vr vp vv nd nr np KM I, e = .returned (.agg (fleetArr ex vl vm vd vr vp vv)) ∧ Sup (Just gt) w' (fun W => FleetK W vl vm vd vr vp vv 1 nd nr np KM.length KM) ∧ TapeAt w' gt I ∧ I ≤ 5000 ∧ 1 ≤ nr ∧ nr ≤ 9 ∧ 1 ≤ KM.length ∧ KM.length ≤ 3 ∧ 1 ≤ ex ∧ ex ≤ 2 ∧ Below gt w w'
set_option maxRecDepth 100000 in
set_option maxHeartbeats 80000000 in
theorem fleet_any {w : World} {gt : Nat} (ht : TapeAt w gt 0) : Calls Try.prog 4 #[.pointer (some ⟨gt, 0, none⟩), .int .i64 3] w (FleetPost w gt) := by
  have hb1 := (Below.refl w.heap.size w).alloc (Nat.le_refl _) (.cells zeroFleet 33)
  have ht1 := hid (ht.below hb1)
  have hres1 := hid (heap_alloc_new w (.cells zeroFleet 33))
  have hlt := ht.lt
  have HB1 := hid (hb1.mono (Nat.le_of_lt hlt))
  clear ht hb1
  go_enter Try.func4, Try.ntmps4
  go_wp2_with fail
  refine (next_any ht1.out (by omega) 2 (by omega) (by omega)).mono ?_
  rintro e w2 ⟨r, hr, rfl, ht2, hf2⟩
  have HM := hid (Mk.init (ex := 1 + (r : Int)) ht2 ((hf2.block w.heap.size (by simp) (fun e => by have : w.heap.size = gt := e; omega)).trans hres1.out) hlt (below_of_fr HB1.out hf2 (fun k e => by rw [show k = gt from e]; exact Nat.le_refl _) (Nat.le_of_lt ht1.out.lt)))
  have hex : (1 : Int) ≤ 1 + (r : Int) ∧ 1 + (r : Int) ≤ 2 := by omega
  clear ht2 hf2 ht1 hres1 HB1
  obtain ⟨ex, hexe⟩ : ∃ x, 1 + (r : Int) = x := ⟨_, rfl⟩
  rw [hexe] at hex HM
  go_wp2_with fail
  clear hexe
  generalize w.heap.size = gr at *
  generalize w2.heap.size = gf at *
  generalize w2.alloc (.cells (fleetArr ex nilV nilV nilV nilV nilV nilV) 33) = w3 at *
  have HN := hid (show ∀ i, (fun _ : Nat => (0 : Nat)) i = 0 from fun _ => rfl)
  have HV := hid (show ∀ i, (fun _ : Nat => nilV) i = nilV from fun _ => rfl)
  have HM3 := HM
  clear HM
  generalize (fun _ : Nat => (0 : Nat)) = n at *
  generalize (fun _ : Nat => nilV) = v at *
  generalize (fun k => k = gt ∨ k = gr ∨ k = gf) = M at *
  generalize (fun _ : Nat => NoOwn) = o at *
  refine (frac_any 1 1 (by omega) (by omega) (by omega) (.inr (by decide)) w3).mono ?_
  rintro e w4 hfr
  obtain ⟨u, x, a1, b1, rfl, hu, hx, hb0, hsu, hb⟩ := hfr.sup
  obtain ⟨U1, m1, c1, rfl⟩ := hu.sl
  obtain ⟨X1, k1, d1, rfl⟩ := hx.sl
  have HF1 := hid (frat_step hsu hb0 hb.size)
  have HM4 := hid ((HM3.out.below hb).below ((Below.refl _ _).alloc (Nat.le_refl _) (.cells #[.bool false, .slice U1 m1 c1, .slice X1 k1 d1] 48)))
  have HZ4 := hid (Below.size (hb.alloc hb.size (.cells #[.bool false, .slice U1 m1 c1, .slice X1 k1 d1] 48)))
  clear hu hx hb0 hsu hb hfr
  go_wp2_with fail
  generalize w4.heap.size = g1 at *
  generalize w4.alloc (.cells #[.bool false, .slice U1 m1 c1, .slice X1 k1 d1] 48) = w5 at *
  refine (frac_01 w5).mono ?_
  rintro e w6 hfr
  obtain ⟨u, x, a2, b2, rfl, hu, hx, hb0, hsu, hb⟩ := hfr.sup
  obtain ⟨U2, m2, c2, rfl⟩ := hu.sl
  obtain ⟨X2, k2, d2, rfl⟩ := hx.sl
  have HZ6 := hid (Nat.le_trans HZ4.out hb.size)
  have HF2 := hid (frat_step (hsu.le HZ4.out) hb0 HZ6.out)
  have HBx := hid ((Below.refl w6.heap.size w6).alloc (Nat.le_refl _) (.cells #[.bool false, .slice U2 m2 c2, .slice X2 k2 d2] 48))
  have HF1b := hid ((HF1.out.below hb).below HBx.out)
  have HM6 := hid ((HM4.out.below hb).below HBx.out)
  clear hu hx hb0 hsu hb hfr HF1 HM4
  go_wp2_with fail
  have HBy := hid ((Below.refl (w6.alloc (.cells #[.bool false, .slice U2 m2 c2, .slice X2 k2 d2] 48)).heap.size (w6.alloc (.cells #[.bool false, .slice U2 m2 c2, .slice X2 k2 d2] 48))).alloc (Nat.le_refl _) (.cells #[.slice (some ⟨w6.heap.size, 0, none⟩) 1 1] 44))
  have HRR := hid (SupU.block (w0 := w3) (g := w6.heap.size + 1) (by have := HZ6.out; omega) (show ((w6.alloc (.cells #[.bool false, .slice U2 m2 c2, .slice X2 k2 d2] 48)).alloc (.cells #[.slice (some ⟨w6.heap.size, 0, none⟩) 1 1] 44)).heap[w6.heap.size + 1]? = some (.cells #[.slice (some ⟨w6.heap.size, 0, none⟩) 1 1] 44) from by
    have := heap_alloc_new (w6.alloc (.cells #[.bool false, .slice U2 m2 c2, .slice X2 k2 d2] 48)) (.cells #[.slice (some ⟨w6.heap.size, 0, none⟩) 1 1] 44)
    rwa [show (w6.alloc (.cells #[.bool false, .slice U2 m2 c2, .slice X2 k2 d2] 48)).heap.size = w6.heap.size + 1 by simp] at this))
  have HF1c := hid (HF1b.out.below HBy.out)
  have HF2c := hid (HF2.out.below HBy.out)
  have HM7 := hid (HM6.out.below HBy.out)
  have HZ7 := hid (Nat.le_trans HZ6.out (Nat.le_trans HBx.out.size HBy.out.size))
  clear HF1b HF2 HM6 HBx HBy HZ6
  generalize w6.heap.size = g2 at *
  generalize (w6.alloc (.cells #[.bool false, .slice U2 m2 c2, .slice X2 k2 d2] 48)).alloc (.cells #[.slice (some ⟨g2, 0, none⟩) 1 1] 44) = w7 at *
  refine (HM7.out.next_call (by omega) 100 (by omega) (by omega)).mono ?_
  rintro e w8 ⟨r2, hr2, rfl, hm8, hf8⟩
  have HF1d := hid (HF1c.out.next hf8 (HM3.out.under _ HM3.out.mem.1))
  have HF2d := hid (HF2c.out.next hf8 (HM3.out.under _ HM3.out.mem.1))
  have HRRd := hid (HRR.out.next hf8 (HM3.out.under _ HM3.out.mem.1))
  have HZ8 := hid (Nat.le_trans HZ7.out hf8.size)
  have HM8 := hid hm8
  clear hm8 hf8 HF1c HF2c HRR HZ7 HM7
  go_wp2_with fail
  rw [show (100 : Int) + (r2 : Int) = ((100 + r2 : Nat) : Int) by omega]
  refine (frac_any 1 (100 + r2) (by omega) (by omega) (by omega) (.inr (Nat.gcd_one_left _)) w8).mono ?_
  rintro e w9 hfr
  obtain ⟨u, x, a3, b3, rfl, hu, hx, hb0, hsu, hb⟩ := hfr.sup
  obtain ⟨U3, m3, c3, rfl⟩ := hu.sl
  obtain ⟨X3, k3, d3, rfl⟩ := hx.sl
  have HM9 := hid (HM8.out.below hb)
  have HZ9 := hid (Nat.le_trans HZ8.out hb.size)
  have HF3 := hid (frat_step (hsu.le HZ8.out) hb0 HZ9.out)
  have HF1e := hid (HF1d.out.below hb)
  have HF2e := hid (HF2d.out.below hb)
  have HRRe := hid (HRRd.out.below hb)
  have q1 : w9.cell? ⟨gf, 1, none⟩ = some nilV := HM9.out.cells 1
  have qf : w9.frozen? ⟨gf, 1, none⟩ = false := HM9.out.free 1
  have hlt9 := HM9.out.lt
  clear hu hx hb0 hsu hb hfr HF1d HF2d HRRd HM8 HZ8
  go_wp2_with fail
  have hwe : ((w9.setCell ⟨gf, 1, none⟩ (.slice (some ⟨w9.heap.size + 1, 0, none⟩) 1 1)).alloc (.cells #[.bool false, .slice U3 m3 c3, .slice X3 k3 d3] 48)).alloc (.cells #[.string ⟨#[100, 105, 115, 107]⟩, .slice (some ⟨g1, 0, none⟩) 1 1, .slice (some ⟨g2 + 1, 0, none⟩) 1 1, .slice (some ⟨w9.heap.size, 0, none⟩) 1 1] 64) = ((w9.alloc (.cells #[.bool false, .slice U3 m3 c3, .slice X3 k3 d3] 48)).alloc (.cells #[.string ⟨#[100, 105, 115, 107]⟩, .slice (some ⟨g1, 0, none⟩) 1 1, .slice (some ⟨g2 + 1, 0, none⟩) 1 1, .slice (some ⟨w9.heap.size, 0, none⟩) 1 1] 64)).setCell ⟨gf, 1, none⟩ (.slice (some ⟨w9.heap.size + 1, 0, none⟩) 1 1) := by
    rw [World.setCell_alloc_past _ _ _ _ (by simp; omega), World.setCell_alloc_past _ _ _ _ hlt9]
  rw [hwe]
  have HBx := hid ((Below.refl w9.heap.size w9).alloc (Nat.le_refl _) (.cells #[.bool false, .slice U3 m3 c3, .slice X3 k3 d3] 48))
  have HBy := hid ((Below.refl (w9.alloc (.cells #[.bool false, .slice U3 m3 c3, .slice X3 k3 d3] 48)).heap.size (w9.alloc (.cells #[.bool false, .slice U3 m3 c3, .slice X3 k3 d3] 48))).alloc (Nat.le_refl _) (.cells #[.string ⟨#[100, 105, 115, 107]⟩, .slice (some ⟨g1, 0, none⟩) 1 1, .slice (some ⟨g2 + 1, 0, none⟩) 1 1, .slice (some ⟨w9.heap.size, 0, none⟩) 1 1] 64))
  have hrow5 : ((w9.alloc (.cells #[.bool false, .slice U3 m3 c3, .slice X3 k3 d3] 48)).alloc (.cells #[.string ⟨#[100, 105, 115, 107]⟩, .slice (some ⟨g1, 0, none⟩) 1 1, .slice (some ⟨g2 + 1, 0, none⟩) 1 1, .slice (some ⟨w9.heap.size, 0, none⟩) 1 1] 64)).heap[w9.heap.size + 1]? = some (.cells #[.string ⟨#[100, 105, 115, 107]⟩, .slice (some ⟨g1, 0, none⟩) 1 1, .slice (some ⟨g2 + 1, 0, none⟩) 1 1, .slice (some ⟨w9.heap.size, 0, none⟩) 1 1] 64) := by
    have := heap_alloc_new (w9.alloc (.cells #[.bool false, .slice U3 m3 c3, .slice X3 k3 d3] 48)) (.cells #[.string ⟨#[100, 105, 115, 107]⟩, .slice (some ⟨g1, 0, none⟩) 1 1, .slice (some ⟨g2 + 1, 0, none⟩) 1 1, .slice (some ⟨w9.heap.size, 0, none⟩) 1 1] 64)
    rwa [show (w9.alloc (.cells #[.bool false, .slice U3 m3 c3, .slice X3 k3 d3] 48)).heap.size = w9.heap.size + 1 by simp] at this
  have HSL := hid (show Sup M ((w9.alloc (.cells #[.bool false, .slice U3 m3 c3, .slice X3 k3 d3] 48)).alloc (.cells #[.string ⟨#[100, 105, 115, 107]⟩, .slice (some ⟨g1, 0, none⟩) 1 1, .slice (some ⟨g2 + 1, 0, none⟩) 1 1, .slice (some ⟨w9.heap.size, 0, none⟩) 1 1] 64)) (fun w' => RowsIn w' (.slice (some ⟨w9.heap.size + 1, 0, none⟩) 1 1) 1 4 LawCell) from fun w' hw => by
    have hU := HM3.out.under
    exact LawBlk.rows (g1 := g1) (g2 := g2) (g3 := g2 + 1) (g4 := w9.heap.size) ⟨((HF1e.out.below HBx.out).below HBy.out) M hU w' hw, ((HF2e.out.below HBx.out).below HBy.out) M hU w' hw, (HF3.out.below HBy.out) M hU w' hw, ((HRRe.out.below HBx.out).below HBy.out) M hU w' hw, ⟨_, SupU.block (w0 := w3) (by have := HZ9.out; omega) hrow5 M hU w' hw⟩⟩)
  have HM10 := hid (((HM9.out.below HBx.out).below HBy.out).field HSL.out 1 (.slice (some ⟨w9.heap.size + 1, 0, none⟩) 1 1) (.slice (some ⟨w9.heap.size + 1, 0, none⟩) 1 1) nilV rfl)
  clear hwe HBx HBy hrow5 HSL HF1e HF2e HF3 HRRe q1 qf hlt9 HM9 HM3 HZ9
  generalize ((w9.alloc (.cells #[.bool false, .slice U3 m3 c3, .slice X3 k3 d3] 48)).alloc (.cells #[.string ⟨#[100, 105, 115, 107]⟩, .slice (some ⟨g1, 0, none⟩) 1 1, .slice (some ⟨g2 + 1, 0, none⟩) 1 1, .slice (some ⟨w9.heap.size, 0, none⟩) 1 1] 64)).setCell ⟨gf, 1, none⟩ (.slice (some ⟨w9.heap.size + 1, 0, none⟩) 1 1) = w10 at *
  generalize w9.heap.size = g9 at *
  refine (HM10.out.next_call (by omega) 2 (by omega) (by omega)).mono ?_
  rintro e w11 ⟨ra, hra, rfl, hm, _⟩
  have HM11 := hid hm
  clear hm HM10
  go_wp2_with fail
  refine (HM11.out.next_call (by omega) 9 (by omega) (by omega)).mono ?_
  rintro e w12 ⟨rb, hrb, rfl, hm, _⟩
  have HM12 := hid hm
  clear hm HM11
  go_wp2_with fail
  refine (HM12.out.next_call (by omega) 3 (by omega) (by omega)).mono ?_
  rintro e w13 ⟨rc, hrc, rfl, hm, _⟩
  have HM13 := hid hm
  clear hm HM12
  go_wp2_with fail
  refine (HM13.out.next_call (by omega) 9 (by omega) (by omega)).mono ?_
  rintro e w14 ⟨rd, hrd, rfl, hm, _⟩
  have HM14 := hid hm
  clear hm HM13
  have q1 : w14.cell? ⟨gf, 2, none⟩ = some nilV := HM14.out.cells 2
  have qf : w14.frozen? ⟨gf, 2, none⟩ = false := HM14.out.free 2
  have hlt9 := HM14.out.lt
  go_wp2_with fail
  have hwe : (w14.setCell ⟨gf, 2, none⟩ (.slice (some ⟨w14.heap.size, 0, none⟩) 2 2)).alloc (.cells #[.string ⟨#[98, 105, 103]⟩, .int .i64 (3 + (ra : Int)), .int .i64 (8 + (rb : Int)), .int .i64 0, .string ⟨#[111, 108, 100]⟩, .int .i64 (1 + (rc : Int)), .int .i64 (4 + (rd : Int)), .int .i64 0] 66) = (w14.alloc (.cells #[.string ⟨#[98, 105, 103]⟩, .int .i64 (3 + (ra : Int)), .int .i64 (8 + (rb : Int)), .int .i64 0, .string ⟨#[111, 108, 100]⟩, .int .i64 (1 + (rc : Int)), .int .i64 (4 + (rd : Int)), .int .i64 0] 66)).setCell ⟨gf, 2, none⟩ (.slice (some ⟨w14.heap.size, 0, none⟩) 2 2) := by
    rw [World.setCell_alloc_past _ _ _ _ hlt9]
  rw [hwe]
  have HBx := hid ((Below.refl w14.heap.size w14).alloc (Nat.le_refl _) (.cells #[.string ⟨#[98, 105, 103]⟩, .int .i64 (3 + (ra : Int)), .int .i64 (8 + (rb : Int)), .int .i64 0, .string ⟨#[111, 108, 100]⟩, .int .i64 (1 + (rc : Int)), .int .i64 (4 + (rd : Int)), .int .i64 0] 66))
  have HSL := hid (show Sup M (w14.alloc (.cells #[.string ⟨#[98, 105, 103]⟩, .int .i64 (3 + (ra : Int)), .int .i64 (8 + (rb : Int)), .int .i64 0, .string ⟨#[111, 108, 100]⟩, .int .i64 (1 + (rc : Int)), .int .i64 (4 + (rd : Int)), .int .i64 0] 66)) (fun w' => RowsIn w' (.slice (some ⟨g9 + 1, 0, none⟩) 1 1) 1 4 LawCell ∧ RowsIn w' (.slice (some ⟨w14.heap.size, 0, none⟩) 2 2) 2 4 ModCell) from fun w' hw =>
    ⟨(HM14.out.froz.below HBx.out) w' hw, models_rows (SupU.block (w0 := w14) (Nat.le_refl _) (heap_alloc_new w14 (.cells #[.string ⟨#[98, 105, 103]⟩, .int .i64 (3 + (ra : Int)), .int .i64 (8 + (rb : Int)), .int .i64 0, .string ⟨#[111, 108, 100]⟩, .int .i64 (1 + (rc : Int)), .int .i64 (4 + (rd : Int)), .int .i64 0] 66)) M HM14.out.under w' hw)⟩)
  have HM15 := hid ((HM14.out.below HBx.out).field HSL.out 2 (.slice (some ⟨w14.heap.size, 0, none⟩) 2 2) (.slice (some ⟨g9 + 1, 0, none⟩) 1 1) (.slice (some ⟨w14.heap.size, 0, none⟩) 2 2) rfl)
  clear hwe HBx HSL q1 qf hlt9 HM14
  generalize (w14.alloc (.cells #[.string ⟨#[98, 105, 103]⟩, .int .i64 (3 + (ra : Int)), .int .i64 (8 + (rb : Int)), .int .i64 0, .string ⟨#[111, 108, 100]⟩, .int .i64 (1 + (rc : Int)), .int .i64 (4 + (rd : Int)), .int .i64 0] 66)).setCell ⟨gf, 2, none⟩ (.slice (some ⟨w14.heap.size, 0, none⟩) 2 2) = w15 at *
  generalize w14.heap.size = g14 at *
  obtain ⟨vl, hvl⟩ : ∃ x, Value.slice (some ⟨g9 + 1, 0, none⟩) 1 1 = x := ⟨_, rfl⟩
  obtain ⟨vm, hvm⟩ : ∃ x, Value.slice (some ⟨g14, 0, none⟩) 2 2 = x := ⟨_, rfl⟩
  rw [hvl, hvm] at HM15
  refine (frac_01 w15).mono ?_
  rintro e w16 hfr
  obtain ⟨u, x, a4, b4, rfl, hu, hx, hb0, hsu, hb⟩ := hfr.sup
  obtain ⟨U4, m4, c4, rfl⟩ := hu.sl
  obtain ⟨X4, k4, d4, rfl⟩ := hx.sl
  have HM16 := hid (HM15.out.below hb)
  have HE16 := hid (HM16.out.first (HN.out 0) (hsu M HM15.out.under) hb0)
  rw [HN.out 1, HN.out 2, HN.out 3] at HE16
  have q1 : w16.cell? ⟨gf, 3, none⟩ = some nilV := (HM16.out.cells 3).trans (by rw [← HV.out 0]; rfl)
  have qf : w16.frozen? ⟨gf, 3, none⟩ = false := HM16.out.free 3
  have hlt9 := HM16.out.lt
  clear hu hx hb0 hsu hb hfr HM15
  go_wp2_with fail
  have hwe : (w16.setCell ⟨gf, 3, none⟩ (.slice (some ⟨w16.heap.size, 0, none⟩) 1 1)).alloc (.cells #[.string ⟨#[]⟩, .int .i64 0, .int .i64 (-1), .int .i64 0, .bool false, .slice U4 m4 c4, .slice X4 k4 d4] 68) = (w16.alloc (.cells #[.string ⟨#[]⟩, .int .i64 0, .int .i64 (-1), .int .i64 0, .bool false, .slice U4 m4 c4, .slice X4 k4 d4] 68)).setCell ⟨gf, 3, none⟩ (.slice (some ⟨w16.heap.size, 0, none⟩) 1 1) := by
    rw [World.setCell_alloc_past _ _ _ _ hlt9]
  rw [hwe]
  have HE17 : Hid (MkE (fun w' => RowsIn w' vl 1 4 LawCell ∧ RowsIn w' vm 2 4 ModCell) 0 gt gr gf w ex vl vm 6 1 0 0 0 ((w16.alloc (.cells #[.string ⟨#[]⟩, .int .i64 0, .int .i64 (-1), .int .i64 0, .bool false, .slice U4 m4 c4, .slice X4 k4 d4] 68)).setCell ⟨gf, 3, none⟩ (.slice (some ⟨w16.heap.size, 0, none⟩) 1 1))) := by
    subst hvl hvm
    exact HE16
  clear hwe HE16 q1 qf hlt9 HM16 HN HV
  generalize (w16.alloc (.cells #[.string ⟨#[]⟩, .int .i64 0, .int .i64 (-1), .int .i64 0, .bool false, .slice U4 m4 c4, .slice X4 k4 d4] 68)).setCell ⟨gf, 3, none⟩ (.slice (some ⟨w16.heap.size, 0, none⟩) 1 1) = w17 at *
  clear hvl hvm
  generalize hSS : (fun w' => RowsIn w' vl 1 4 LawCell ∧ RowsIn w' vm 2 4 ModCell) = SS at *
  refine (next_mk HE17.out (by omega) 3 (by omega) (by omega)).mono ?_
  rintro e w18 ⟨r5, hr5, rfl, he⟩
  have HE := hid he
  have HS := hid hSS
  clear he HE17
  obtain ⟨m, hm⟩ : ∃ m, 3 + r5 = m := ⟨_, rfl⟩
  have hmI : (3 : Int) + (r5 : Int) = (m : Int) := by omega
  go_wp2_with fail
  clear HS
  have hm5 : m ≤ 5 ∧ 3 ≤ m := by omega
  obtain ⟨d0, hd0, hdz, hds, hdb⟩ := info_parts Try.info_drv
  go_loopg [7, 8, 9, 10] m (fun k a b c i wr => ∃ (x y z : Int) (q I n0 n1 : Nat), Hid (k + q = m) ∧ a = .int .i64 x ∧ b = .int .i64 y ∧ c = .int .i64 z ∧ i = .int .i64 q ∧ Hid (I ≤ 10 + 30 * q ∧ 1 ≤ n0 ∧ n0 ≤ 1 + 4 * q ∧ n1 ≤ 9 ∧ (1 ≤ q → 2 ≤ n0 ∧ 1 ≤ n1)) ∧ Hid (MkE SS 0 gt gr gf w ex vl vm I n0 n1 0 0 wr))
  case atStart => exact ⟨0, 0, 0, 0, 7, 1, 0, hid (by omega), rfl, rfl, rfl, rfl, hid (by omega), HE⟩
  case round =>
    clear HE
    obtain ⟨x, y, z, q, I, n0, n1, HQ, rfl, rfl, rfl, rfl, HN, HE⟩ := hrel
    have hkq := HQ.out
    by_cases hlt : q < m
    · as_aux_lemma => -- R1
        obtain ⟨hI, hn0, hn0', hn1, hnq⟩ := HN.out
        go_upto_region 10 with fail
        go_cut [71] (fun c wx => ∃ (bb : Bool) (I1 : Nat), c = .bool bb ∧ Hid (I1 ≤ I + 1) ∧ Hid (MkE SS 0 gt gr gf w ex vl vm I1 n0 n1 0 0 wx))
        case first =>
          by_cases hq0 : q = 0
          · subst hq0
            go_wp2_with fail
            go_meet
            exact ⟨true, I, rfl, hid (by omega), HE⟩
          · have hq1 : ((q : Int) == 0) = false := by rw [beq_eq_false_iff_ne]; omega
            go_wp2_with fail
            refine (next_mk HE.out (by omega) 4 (by omega) (by omega)).mono ?_
            rintro e wx ⟨r1, hr1, rfl, he⟩
            have HE1 := hid he
            clear he HE
            go_wp2_with fail
            go_meet
            exact ⟨_, I + 1, rfl, hid (by omega), HE1⟩
        case rest =>
          clear HE
          obtain ⟨bb, I1, rfl, HI1, HE1⟩ := hcut
          have hI1 := HI1.out
          go_upto_if 71 with fail
          go_cut [7, 8, 9] (fun a b c wx => ∃ (x' y' z' : Int) (I2 n2 : Nat), a = .int .i64 x' ∧ b = .int .i64 y' ∧ c = .int .i64 z' ∧ Hid (I2 ≤ I + 5 ∧ n0 ≤ n2 ∧ n2 ≤ n0 + 3) ∧ Hid (MkE SS 0 gt gr gf w ex vl vm I2 n2 n1 0 0 wx))
          case first =>
            cases bb
            case true =>
              go_wp2_with fail
              refine (next_mk HE1.out (by omega) 17 (by omega) (by omega)).mono ?_
              rintro e wa ⟨ra, hra, rfl, he⟩
              have HE2 := hid he
              clear he HE1
              go_wp2_with fail
              refine (dom_mk HE2.out (by omega) (by omega) 1 0 (16 + (ra : Int)) (by omega) (by omega)).mono ?_
              rintro e wb ⟨rfl, he⟩
              have HE3 := hid he
              clear he HE2
              go_wp2_with fail
              refine (next_mk HE3.out (by omega) 17 (by omega) (by omega)).mono ?_
              rintro e wc1 ⟨rb, hrb, rfl, he⟩
              have HE4 := hid he
              clear he HE3
              go_wp2_with fail
              refine (dom_mk HE4.out (by omega) (by omega) 2 _ (16 + (rb : Int)) (by omega) (by omega)).mono ?_
              rintro e wd ⟨rfl, he⟩
              have HE5 := hid he
              clear he HE4
              go_wp2_with fail
              refine (next_mk HE5.out (by omega) 9 (by omega) (by omega)).mono ?_
              rintro e we ⟨rc, hrc, rfl, he⟩
              have HE6 := hid he
              clear he HE5
              go_wp2_with fail
              refine (dom_mk HE6.out (by omega) (by omega) 3 _ (8 + (rc : Int)) (by omega) (by omega)).mono ?_
              rintro e wf ⟨rfl, he⟩
              have HE7 := hid he
              clear he HE6
              go_wp2_with fail
              go_meet
              exact ⟨_, _, _, _, _, rfl, rfl, rfl, hid (by omega), HE7⟩
            case false =>
              go_wp2_with fail
              refine (next_mk HE1.out (by omega) 2 (by omega) (by omega)).mono ?_
              rintro e wa ⟨ra, hra, rfl, he⟩
              have HE2 := hid he
              clear he HE1
              by_cases hra0 : ra = 0
              · subst hra0
                go_wp2_with fail
                refine (next_mk HE2.out (by omega) 9 (by omega) (by omega)).mono ?_
                rintro e we ⟨rc, hrc, rfl, he⟩
                have HE6 := hid he
                clear he HE2
                go_wp2_with fail
                refine (dom_mk HE6.out (by omega) (by omega) 3 _ (8 + (rc : Int)) (by omega) (by omega)).mono ?_
                rintro e wf ⟨rfl, he⟩
                have HE7 := hid he
                clear he HE6
                go_wp2_with fail
                go_meet
                exact ⟨_, _, _, _, _, rfl, rfl, rfl, hid (by omega), HE7⟩
              · have hra1 : ((ra : Int) == 0) = false := by rw [beq_eq_false_iff_ne]; omega
                go_wp2_with fail
                go_meet
                exact ⟨_, _, _, _, _, rfl, rfl, rfl, hid (by omega), HE2⟩
          case rest =>
            clear HE1
            obtain ⟨x', y', z', I2, n2, rfl, rfl, rfl, HB2, HE2⟩ := hcut
            obtain ⟨hI2, hn2, hn2'⟩ := HB2.out
            go_wp2_with fail
            refine (next_mk HE2.out (by omega) 9 (by omega) (by omega)).mono ?_
            rintro e wa ⟨rm, hrm, rfl, he⟩
            have HE3 := hid he
            clear he HE2
            go_wp2_with fail
            refine (dom_mk HE3.out (by omega) (by omega) 4 _ (8 + (rm : Int)) (by omega) (by omega)).mono ?_
            rintro e wb ⟨rfl, he⟩
            have HE4 := hid he
            clear he HE3
            go_wp2_with fail
            refine (next_mk HE4.out (by omega) 2 (by omega) (by omega)).mono ?_
            rintro e we ⟨rk, hrk, rfl, he⟩
            have HE5 := hid he
            clear he HE4
            obtain ⟨kk, hkk⟩ : ∃ k, 1 + rk = k := ⟨_, rfl⟩
            have hkkI : (1 : Int) + (rk : Int) = (kk : Int) := by omega
            go_wp2_with fail
            go_loopg [12] kk (fun gh c wr => ∃ (j I3 n3 : Nat), Hid (j ≤ gh) ∧ c = .int .i64 (j : Nat) ∧ Hid (I3 + 2 * j ≤ I + 12 ∧ 1 ≤ j + n3 ∧ n3 ≤ 9 ∧ j ≤ 2) ∧ Hid (MkE SS 0 gt gr gf w ex vl vm I3 (n2 + 1) n3 0 0 wr))
            case atStart => exact ⟨kk, _, n1, hid (Nat.le_refl _), rfl, hid (by omega), HE5⟩
            case round =>
              clear HE5
              obtain ⟨j, I3, n3, HJ, rfl, HB3, HE⟩ := hrel
              have hjg := HJ.out
              obtain ⟨hI3, hn31, hn39, hj2⟩ := HB3.out
              obtain ⟨A0, e0, A1, e1, A2, e2, A3, e3, hrow⟩ := HE.out.row
              have q4 : wr.cell? ⟨gf, 4, none⟩ = some (.slice A1 n3 e1) := cell_block hrow 4
              clear hrow
              by_cases hj0 : j = 0
              · subst hj0
                clear q4
                go_wp2_with fail
                go_roundg (m - (q + 1))
                case measure => omega
                case rel => exact ⟨x', y', z', q + 1, I3, n2 + 1, n3, hid (by omega), rfl, rfl, rfl, by go_num, hid (by omega), HE⟩
              · by_cases h9 : n3 < 9
                · go_wp2_with fail
                  refine (next_mk HE.out (by omega) 4 (by omega) (by omega)).mono ?_
                  rintro e wx ⟨r4, hr4, rfl, he⟩
                  have HE6 := hid he
                  clear he HE q4
                  go_upto_if 114 with fail
                  go_cut [13] (fun x wx => ∃ xx : Int, x = .int .i64 xx ∧ Hid (MkE SS 0 gt gr gf w ex vl vm (I3 + 1) (n2 + 1) n3 0 0 wx))
                  case first =>
                    by_cases hr0 : r4 = 0
                    · subst hr0
                      go_wp2_with fail
                      go_meet
                      exact ⟨_, rfl, HE6⟩
                    · have hr1 : ((r4 : Int) == 0) = false := by rw [beq_eq_false_iff_ne]; omega
                      go_wp2_with fail
                      go_meet
                      exact ⟨_, rfl, HE6⟩
                  case rest =>
                    clear HE6
                    obtain ⟨xx, rfl, HE⟩ := hcut
                    clear hr4
                    obtain ⟨v, n, M, o, hmk, f0, f1, f2, f3⟩ := HE.out
                    obtain ⟨L, hL, hR, hQ⟩ := hmk.comp 1 (by omega)
                    obtain ⟨A, cc, hv1, hcc, hccm, _⟩ := hR.at_
                    have hL3 : L.length = n3 := hL.trans f1
                    have q4 : wc.cell? ⟨gf, 4, none⟩ = some (.slice A n3 cc) := by
                      rw [← hL3, ← hv1]
                      exact hmk.cells 4
                    have HO := hid (show OwnSl wc (o 1) 3 (.slice A n3 cc) n3 L.flatten from by
                      have := hR.own
                      rw [hv1, hL3] at this
                      exact this)
                    have HS := hid (fun (W : World) (hW : Below wc.heap.size wc W) => (hW.cell (p := ⟨gf, 4, none⟩) hmk.lt).trans q4)
                    have HMK := hid hmk
                    have HRO := hid (show RowsOwn wc (o 1) 3 (v 1) L from hR)
                    have HQ1 := hid hQ
                    have HV1 := hid hv1
                    have HF := hid (show n 0 = n2 + 1 ∧ n 1 = n3 ∧ n 2 = 0 ∧ n 3 = 0 from ⟨f0, f1, f2, f3⟩)
                    have HLL := hid (And.intro hL hL3)
                    unfold maxLen at hccm
                    rw [hL3] at hcc
                    have hj1 : (j : Int) - 1 = ((j - 1 : Nat) : Int) := by omega
                    clear hmk hR hQ hv1 f0 f1 f2 f3 hL hL3 HE
                    go_upto_region 23 with fail
                    have HWv := hid ((Below.refl wc.heap.size wc).drew)
                    have q4w : wc.drew.cell? ⟨gf, 4, none⟩ = some (.slice A n3 cc) := HS.out _ HWv.out
                    go_region_law
                      ((first
                        | (go_simp; go_at_call 14; refine (name_any 100 n3 (by omega) _).mono ?_; rintro e wx ⟨s, rfl, hb⟩; replace HWv := hid (HWv.out.trans (hb.mono HWv.out.size)); have q4x := HS.out _ HWv.out; have q4y := HS.out _ (HWv.out.alloc HWv.out.size (.cells #[.string s, .int .i64 xx, .int .i64 (n2 : Int)] 73)); clear hb)
                        | (refine step_append_sl (by rfl) (.tmp 116) (.tmp 124) 29 (by rfl) 73 d0 _ 3 32 Try.underlying29 hd0 hdz hds hdb rfl (by decide) (o 1) (.slice A n3 cc) _ n3 1 L.flatten [.string s, .int .i64 xx, .int .i64 (n2 : Int)] (by rfl) (by rfl) (HO.out.below (HWv.out.alloc HWv.out.size _)) ⟨rfl, .inr ⟨_, 1, rfl, World.news_of_block (cs := #[.string s, .int .i64 xx, .int .i64 (n2 : Int)]) (fr := (0, 0)) (heap_alloc_new _ _)⟩⟩ (by intro u hu; simp at hu; rcases hu with rfl | rfl | rfl <;> rfl) (by unfold maxLen; omega) (by omega) ?_; intro v6 w6 hown6 hgrow; rw [← HLL.out.2] at hown6; have HAP := hid (add_post (fi := 4) HMK.out.row HRO.out (fun k hk => (HMK.out.sub 1 (by omega) k hk).2) (fun k hk => HMK.out.under _ (HMK.out.sub 1 (by omega) k hk).1) (HWv.out.alloc HWv.out.size _) hown6 hgrow rfl); have q0 : w6.cell? ⟨gf, 4, none⟩ = some (.slice A n3 cc) := HAP.out.cell.trans (by rw [← HLL.out.2, ← HV1.out]; rfl); have q1 := HAP.out.frozen; obtain ⟨A6, c6, rfl, _⟩ := hown6.form; clear hown6 hgrow)))
                    all_goals
                      clear q0 q1
                      have HE7 : Hid (MkE SS 0 gt gr gf w ex vl vm (I3 + 1) (n2 + 1) (n3 + 1) 0 0 (w6.setCell ⟨gf, 4, none⟩ (.slice A6 (L.length + 1) c6))) := hid ⟨_, _, _, _, Mk.grow 1 (by omega) HMK.out HLL.out.1 HQ1.out HAP.out rfl ⟨s, xx, n2, rfl⟩, by rw [upd_ne _ _ _ (by omega)]; exact HF.out.1, by rw [upd_same, HF.out.2.1], by rw [upd_ne _ _ _ (by omega)]; exact HF.out.2.2.1, by rw [upd_ne _ _ _ (by omega)]; exact HF.out.2.2.2⟩
                      clear HAP
                      go_wp2_with fail
                      go_roundg (j - 1)
                      case measure => omega
                      case rel => exact ⟨j - 1, I3 + 1, n3 + 1, hid (Nat.le_refl _), rfl, hid (by omega), HE7⟩
                · go_wp2_with fail
                  go_roundg (m - (q + 1))
                  case measure => omega
                  case rel => exact ⟨x', y', z', q + 1, I3, n2 + 1, n3, hid (by omega), rfl, rfl, rfl, by go_num, hid (by omega), HE⟩
    · obtain rfl : m = q := by omega
      have hb := HN.out
      have hbd : I ≤ 160 ∧ 2 ≤ n0 ∧ n0 ≤ 21 ∧ 1 ≤ n1 ∧ n1 ≤ 9 := by omega
      clear HN HQ hb hkq hlt
      go_wp2_with fail
      refine (next_mk HE.out (by omega) 2 (by omega) (by omega)).mono ?_
      rintro e wn ⟨rn, hrn, rfl, he⟩
      have HE1 := hid he
      clear he HE
      obtain ⟨pn, hpn⟩ : ∃ k, 1 + rn = k := ⟨_, rfl⟩
      have hpnI : (1 : Int) + (rn : Int) = (pn : Int) := by omega
      go_wp2_with fail
      go_loopg [14] pn (fun gh c wr => ∃ (p I n2 : Nat), Hid (p ≤ gh) ∧ c = .int .i64 (p : Nat) ∧ Hid (I + 20 * p ≤ 260 ∧ p + n2 = pn ∧ p ≤ 2) ∧ Hid (MkE SS 0 gt gr gf w ex vl vm I n0 n1 n2 0 wr))
      case atStart => exact ⟨pn, _, 0, hid (Nat.le_refl _), rfl, hid (by omega), HE1⟩
      case round =>
        clear HE1
        obtain ⟨p, I, n2, HP, rfl, HB, HE⟩ := hrel
        have hpg := HP.out
        by_cases hp0 : p = 0
        · subst hp0
          as_aux_lemma => -- R4
            have hb4 := HB.out
            have hn2 : 1 ≤ n2 ∧ n2 ≤ 2 := by omega
            have hI : I ≤ 260 := by omega
            have HE0 := hid (HE.out.setB n2)
            clear HE HB HP hb4
            go_wp2_with fail
            refine (next_mk HE0.out (by omega) 3 (by omega) (by omega)).mono ?_
            rintro e wa ⟨r6, hr6, rfl, he⟩
            have HE1 := hid he
            clear he HE0
            obtain ⟨vn, hvn⟩ : ∃ k, 1 + r6 = k := ⟨_, rfl⟩
            have hvnI : (1 : Int) + (r6 : Int) = (vn : Int) := by omega
            obtain ⟨d1, he0, hez, hes, heb⟩ := info_parts Try.info_vol
            go_wp2_with fail
            go_loopg [19] vn (fun gh c wr => ∃ (p I3 n3 : Nat), Hid (p ≤ gh) ∧ c = .int .i64 (p : Nat) ∧ Hid (I3 + p ≤ 270 ∧ p + n3 = vn ∧ p ≤ 3) ∧ Hid (MkE SS n2 gt gr gf w ex vl vm I3 n0 n1 n2 n3 wr))
            case atStart => exact ⟨vn, _, 0, hid (Nat.le_refl _), rfl, hid (by omega), HE1⟩
            case round =>
              clear HE1
              obtain ⟨p, I3, n3, HP, rfl, HB, HE⟩ := hrel
              have hpg := HP.out
              have hb3 := HB.out
              by_cases hp0 : p = 0
              · subst hp0
                as_aux_lemma => -- R4x
                  subst hSS
                  obtain ⟨v, n, M, o, hmk, f0, f1, f2, f3⟩ := HE.out
                  obtain ⟨KM, hKM, hSup⟩ := hmk.done f2 ⟨by omega, by omega⟩ (by omega) ⟨by omega, by omega⟩ ⟨by omega, by omega⟩
                  have HONE := hid (fleet_one (ex := ex) (v0 := vl) (v1 := vm) (v2 := v 0) (v3 := v 1) (v4 := v 2) (v5 := v 3) (by
                    obtain ⟨_, _, k0, _⟩ := (hmk.comp 0 (by omega)).form
                    obtain ⟨_, _, k1, _⟩ := (hmk.comp 1 (by omega)).form
                    obtain ⟨_, _, k2, _⟩ := (hmk.comp 2 (by omega)).form
                    obtain ⟨_, _, k3, _⟩ := (hmk.comp 3 (by omega)).form
                    obtain ⟨_, _, k4, _⟩ := hmk.froz.now.1
                    obtain ⟨_, _, k5, _⟩ := hmk.froz.now.2
                    intro u hu
                    simp only [List.mem_cons, List.not_mem_nil, or_false] at hu
                    rcases hu with rfl | rfl | rfl | rfl | rfl | rfl
                    · exact ⟨_, _, _, k4⟩
                    · exact ⟨_, _, _, k5⟩
                    · exact ⟨_, _, _, k0⟩
                    · exact ⟨_, _, _, k1⟩
                    · exact ⟨_, _, _, k2⟩
                    · exact ⟨_, _, _, k3⟩))
                  have HROW := hid hmk.row
                  have HRES := hid hmk.res
                  have HFS := hid (show (fleetArr ex vl vm (v 0) (v 1) (v 2) (v 3)).size = 7 from rfl)
                  have HMK := hid hmk
                  have HSUP := hid hSup
                  have HKM := hid hKM
                  have HF := hid (show n 0 = n0 ∧ n 1 = n1 ∧ n 2 = n2 ∧ n 3 = n3 from ⟨f0, f1, f2, f3⟩)
                  clear hmk hSup hKM f0 f1 f2 f3 HE
                  generalize hfa : fleetArr ex vl vm (v 0) (v 1) (v 2) (v 3) = fa at HROW HFS HONE
                  have HFA := hid hfa
                  clear hfa
                  go_wp2_with (first
                    | (refine wpList_load_row rfl 33 (.tmp 5) rfl gf rfl 33 fa (0, 0) _ HROW.out Try.underlying33 rfl (fleet_size.trans (congrArg some HFS.out.symm)) ?_)
                    | (refine wpList_store_row rfl 33 (.tmp 4) (.tmp 205) rfl gr fa rfl rfl 33 zeroFleet HRES.out (fleet_size.trans (congrArg some HFS.out.symm)) (Eq.trans rfl HFS.out.symm) HONE.out ?_))
                  have hf : Fr (Just gr) wr (wr.setRow gr fa) := (Fr.refl _ _).setRow gr fa rfl
                  have hg7 : (wr.setRow gr fa).heap[gr]? = some (.cells fa 33 (0, 0)) := setRow_heap wr gr _ fa _ _ HRES.out
                  have ho := HMK.out.order
                  have hf3 := HF.out
                  have hkm := HKM.out
                  refine bodyPost_ret (results_cell_row Try.results4 _ _ gr _ _ _ _ rfl hg7 Try.underlying33 rfl (fleet_size.trans (congrArg some HFS.out.symm))) rfl ?_
                  exact ⟨ex, vl, vm, v 0, v 1, v 2, v 3, n 0, n 1, n 2, KM, I3, by rw [HFA.out], (HSUP.out.fr (hf.mono fun k e => .inr e)).less (fun k e => .inl e), HMK.out.tape.fr hf (fun k e => by rw [show k = gr from e]; exact ho.1), by omega, by omega, by omega, by omega, by omega, hex.1, hex.2, below_setRow HMK.out.base (Nat.le_of_lt ho.1) fa⟩
              · as_aux_lemma => -- R4d
                  obtain ⟨v, n, M, o, hmk, f0, f1, f2, f3⟩ := HE.out
                  have HMK := hid hmk
                  have HF := hid (show n 0 = n0 ∧ n 1 = n1 ∧ n 2 = n2 ∧ n 3 = n3 from ⟨f0, f1, f2, f3⟩)
                  obtain ⟨A2, c2, hv2, _, _⟩ := (hmk.comp 2 (by omega)).form
                  obtain ⟨A3, c3, hv3, hcc, hccm⟩ := (hmk.comp 3 (by omega)).form
                  rw [f2] at hv2
                  rw [f3] at hv3 hcc
                  have HV3 := hid hv3
                  unfold maxLen at hccm
                  have HSC := hid (fun (W : World) (hW : Below wr.heap.size wr W) => (⟨(hW.cell (p := ⟨gf, 5, none⟩) hmk.lt).trans ((hmk.cells 5).trans (by rw [← hv2]; rfl)), (hW.cell (p := ⟨gf, 6, none⟩) hmk.lt).trans ((hmk.cells 6).trans (by rw [← hv3]; rfl))⟩ : W.cell? ⟨gf, 5, none⟩ = some (.slice A2 n2 c2) ∧ W.cell? ⟨gf, 6, none⟩ = some (.slice A3 n3 c3)))
                  have hp1 : (p : Int) - 1 = ((p - 1 : Nat) : Int) := by omega
                  clear hmk f0 f1 f2 f3 hv2 hv3 HE
                  go_upto_region 42 with fail
                  have HWv := hid ((Below.refl wr.heap.size wr).drew)
                  have ⟨q5w, q6w⟩ := HSC.out _ HWv.out
                  go_region_law
                    ((first
                      | (go_simp; go_at_call 14; refine (name_any 118 p (by omega) _).mono ?_; rintro e wx ⟨s, rfl, hb⟩; replace HWv := hid (HWv.out.trans (hb.mono HWv.out.size)); have ⟨q5x, q6x⟩ := HSC.out _ HWv.out; clear hb)
                      | (go_simp; go_at_call 11; refine ((HMK.out.below HWv.out).next_call (by omega) n2 (by omega) (by omega)).mono ?_; rintro e wy ⟨r7, hr7, rfl, hmky, hfy⟩; have HMKY := hid hmky; obtain ⟨L, hL, hR, hQ⟩ := hmky.comp 3 (by omega); have HL := hid hL; have HR := hid hR; have HQ := hid hQ; have HO := hid (show OwnSl wy (o 3) 2 (.slice A3 n3 c3) n3 L.flatten from by (have := hR.own; rw [hL, HV3.out, HF.out.2.2.2] at this; exact this)); have q6y : wy.cell? ⟨gf, 6, none⟩ = some (.slice A3 n3 c3) := (hmky.cells 6).trans (by rw [← HV3.out]; rfl); have q6z := (((Below.refl wy.heap.size wy).alloc (Nat.le_refl _) (.cells #[.string s, .int .i64 (r7 : Int)] 52)).cell (p := ⟨gf, 6, none⟩) hmky.lt).trans q6y; clear hmky hfy hL hR hQ)
                      | (refine step_append_sl (by rfl) (.tmp 193) (.tmp 202) 31 (by rfl) 52 d1 _ 2 24 Try.underlying31 he0 hez hes heb rfl (by decide) (o 3) (.slice A3 n3 c3) _ n3 1 L.flatten [.string s, .int .i64 (r7 : Int)] (by rfl) (by rfl) (HO.out.below ((Below.refl _ _).alloc (Nat.le_refl _) _)) ⟨rfl, .inr ⟨_, 1, rfl, World.news_of_block (cs := #[.string s, .int .i64 (r7 : Int)]) (fr := (0, 0)) (heap_alloc_new _ _)⟩⟩ (by intro u hu; simp at hu; rcases hu with rfl | rfl <;> rfl) (by unfold maxLen; omega) (by omega) ?_; intro v6 w6 hown6 hgrow; have hLn : L.length = n3 := HL.out.trans HF.out.2.2.2; rw [← hLn] at hown6; have HAP := hid (add_post (t := 33) (fi := 6) HMKY.out.row HR.out (fun k hk => (HMKY.out.sub 3 (by omega) k hk).2) (fun k hk => HMKY.out.under _ (HMKY.out.sub 3 (by omega) k hk).1) ((Below.refl _ _).alloc (Nat.le_refl _) _) hown6 hgrow rfl); have q0 : w6.cell? ⟨gf, 6, none⟩ = some (.slice A3 n3 c3) := HAP.out.cell.trans (by rw [← HV3.out]; rfl); have q1 := HAP.out.frozen; obtain ⟨A6, c6, rfl, _⟩ := hown6.form; clear hown6 hgrow hLn)))
                  all_goals
                    clear q0 q1
                    have HE7 : Hid (MkE SS n2 gt gr gf w ex vl vm (I3 + 1) n0 n1 n2 (n3 + 1) (w6.setCell ⟨gf, 6, none⟩ (.slice A6 (L.length + 1) c6))) := hid ⟨_, _, _, _, Mk.grow 3 (by omega) HMKY.out HL.out HQ.out HAP.out rfl ⟨s, r7, rfl, hr7⟩, by rw [upd_ne _ _ _ (by omega)]; exact HF.out.1, by rw [upd_ne _ _ _ (by omega)]; exact HF.out.2.1, by rw [upd_ne _ _ _ (by omega)]; exact HF.out.2.2.1, by rw [upd_same, HF.out.2.2.2]⟩
                    clear HAP HMKY HL HR HQ HO HSC
                    go_wp2_with fail
                    go_roundg (p - 1)
                    case measure => omega
                    case rel => exact ⟨p - 1, I3 + 1, n3 + 1, hid (Nat.le_refl _), rfl, hid (by omega), HE7⟩
        · as_aux_lemma => -- R3
            obtain ⟨hI, hpn2, hp2⟩ := HB.out
            go_wp2_with fail
            refine (next_mk HE.out (by omega) 2 (by omega) (by omega)).mono ?_
            rintro e wa ⟨rK, hrK, rfl, he⟩
            have HE1 := hid he
            clear he HE
            obtain ⟨K, hK⟩ : ∃ k, 1 + rK = k := ⟨_, rfl⟩
            have hKI : (1 : Int) + (rK : Int) = (K : Int) := by omega
            go_wp2_with fail
            refine (next_mk HE1.out (by omega) 3 (by omega) (by omega)).mono ?_
            rintro e wb ⟨Mm, hMm, rfl, he⟩
            have HE2 := hid he
            clear he HE1
            go_wp2_with fail
            refine (name_any 112 p (by omega) _).mono ?_
            rintro e wc1 ⟨s, rfl, hb⟩
            have HE3 := hid (HE2.out.below hb)
            clear hb HE2
            obtain ⟨M1, hM1⟩ : ∃ k, Mm + 1 = k := ⟨_, rfl⟩
            have hM1I : (Mm : Int) + 1 = (M1 : Int) := by omega
            go_wp2_with fail
            refine (next_mk HE3.out (by omega) M1 (by omega) (by omega)).mono ?_
            rintro e wd ⟨rQ, hrQ, rfl, he⟩
            obtain ⟨v, n, M, o, hmk, hn⟩ := he
            have HMK := hid hmk
            have HN := hid hn
            have HUM := hid hmk.under
            clear hmk hn HE3
            have HBm := hid ((Below.refl wd.heap.size wd).alloc (Nat.le_refl _) (.cells #[.int .i64 0, .int .i64 1] 3))
            have HSm := hid (SupU.block (w0 := wd) (Nat.le_refl _) (heap_alloc_new wd (.cells #[.int .i64 0, .int .i64 1] 3)))
            have HMK1 := hid (HMK.out.below HBm.out)
            have HZe := hid HBm.out.size
            clear HBm HMK
            go_wp2_with fail
            generalize wd.alloc (.cells #[.int .i64 0, .int .i64 1] 3) = we at *
            refine (frac_any 1 1000 (by omega) (by omega) (by omega) (.inr (by decide)) we).mono ?_
            rintro e wf hfr
            obtain ⟨u, x1, a1, b1, rfl, hu, hx, hb0, hsu, hb⟩ := hfr.sup
            obtain ⟨Ua, ma, ca, rfl⟩ := hu.sl
            obtain ⟨Xa, ka, da, rfl⟩ := hx.sl
            have HSa := hid (hsu.le HZe.out).u
            have HSm2 := hid (HSm.out.below hb)
            have HMK2 := hid (HMK1.out.below hb)
            have HZf := hid (Nat.le_trans HZe.out hb.size)
            have HB1 := hid hb0
            clear hu hx hb0 hsu hb hfr HSm HMK1 HZe
            go_wp2_with fail
            refine (frac_any 30 1 (by omega) (by omega) (by omega) (.inr (by decide)) wf).mono ?_
            rintro e wg hfr
            obtain ⟨u, x1, a2, b2, rfl, hu, hx, hb0, hsu, hb⟩ := hfr.sup
            obtain ⟨Ub, mb, cb, rfl⟩ := hu.sl
            obtain ⟨Xb, kb, db, rfl⟩ := hx.sl
            have HSb := hid (hsu.le HZf.out).u
            have HSa2 := hid (HSa.out.below hb)
            have HSm3 := hid (HSm2.out.below hb)
            have HMK3 := hid (HMK2.out.below hb)
            have HB2 := hid hb0
            clear hu hx hb0 hsu hb hfr HSm2 HSa HMK2 HZf
            have HT := hid (show Sup M wg (TT (.slice (some ⟨wd.heap.size, 0, none⟩) 2 2) (.slice Ua ma ca) (.slice Xa ka da) (.slice Ub mb cb) (.slice Xb kb db)) from fun w' hf => ⟨⟨2, nums_block (l := [0, 1]) (HSm3.out M HUM.out w' hf) (by decide)⟩, ⟨a1, b1, (HSa2.out M HUM.out w' hf).1, (HSa2.out M HUM.out w' hf).2, HB1.out⟩, ⟨a2, b2, (HSb.out M HUM.out w' hf).1, (HSb.out M HUM.out w' hf).2, HB2.out⟩⟩)
            as_aux_lemma => -- R3b
              have HBP := hid (built_pol s (K : Int) (Mm : Int) ((K : Int) + (rQ : Int)) (some ⟨wd.heap.size, 0, none⟩) 2 2 Ua ma ca Xa ka da Ub mb cb Xb kb db)
              have HPS := hid (show (polAgg s (K : Int) (Mm : Int) ((K : Int) + (rQ : Int)) 0 0 0 0 0 (.slice (some ⟨wd.heap.size, 0, none⟩) 2 2) nilV (.slice Ua ma ca) (.slice Xa ka da) (.slice Ub mb cb) (.slice Xb kb db)).size = 17 from rfl)
              have HP1 := hid (show (polAgg s (K : Int) (Mm : Int) ((K : Int) + (rQ : Int)) 0 0 0 0 0 (.slice (some ⟨wd.heap.size, 0, none⟩) 2 2) nilV (.slice Ua ma ca) (.slice Xa ka da) (.slice Ub mb cb) (.slice Xb kb db)).all (·.oneCell') = true from by simp [polAgg, Value.oneCell'])
              obtain ⟨p0, hp0, hpz, _, _⟩ := info_parts Try.info_pol
              generalize hpp : (polAgg s (K : Int) (Mm : Int) ((K : Int) + (rQ : Int)) 0 0 0 0 0 (.slice (some ⟨wd.heap.size, 0, none⟩) 2 2) nilV (.slice Ua ma ca) (.slice Xa ka da) (.slice Ub mb cb) (.slice Xb kb db)) = pp at *
              have HPP := hid hpp
              clear hpp
              go_wp2_with (first
                | (refine wpList_built rfl 50 #[(0, .tmp 140), (1, .tmp 141), (2, .tmp 142), (3, .tmp 148), (5, .tmp 149), (7, .tmp 150), (8, .tmp 151)] rfl [(0, .string s), (1, .int .i64 (K : Int)), (2, .int .i64 (Mm : Int)), (3, .int .i64 ((K : Int) + (rQ : Int))), (5, .slice (some ⟨wd.heap.size, 0, none⟩) 2 2), (7, .agg #[.bool false, .slice Ua ma ca, .slice Xa ka da]), (8, .agg #[.bool false, .slice Ub mb cb, .slice Xb kb db])] (by as_aux_lemma => kernel_rfl) pp HBP.out ?_)
                | (refine wpList_allocRow rfl 50 rfl p0 _ (polAgg ⟨#[]⟩ 0 0 0 0 0 0 0 0 nilV nilV nilV nilV nilV nilV) hp0 hpz rfl ?_)
                | (refine wpList_store_row rfl 50 (.tmp 17) (.tmp 152) rfl wg.heap.size pp rfl rfl 50 (polAgg ⟨#[]⟩ 0 0 0 0 0 0 0 0 nilV nilV nilV nilV nilV nilV) (heap_alloc_new wg (.cells (polAgg ⟨#[]⟩ 0 0 0 0 0 0 0 0 nilV nilV nilV nilV nilV nilV) 50)) (pol_size.trans (congrArg some HPS.out.symm)) (Eq.trans rfl HPS.out.symm) HP1.out ?_))
              have HPM := hid (Pm.start HMK3.out HT.out (below_setRow ((Below.refl wg.heap.size wg).alloc (Nat.le_refl _) (.cells (polAgg ⟨#[]⟩ 0 0 0 0 0 0 0 0 nilV nilV nilV nilV nilV nilV) 50)) (Nat.le_refl _) pp) (setRow_heap _ _ _ _ _ _ (heap_alloc_new wg (.cells (polAgg ⟨#[]⟩ 0 0 0 0 0 0 0 0 nilV nilV nilV nilV nilV nilV) 50))))
              clear HSb HSa2 HSm3 HB1 HB2 HT HMK3 HUM HBP HPS HP1 hp0 hpz
              generalize World.setRow _ wg.heap.size pp = wp at *
              generalize wg.heap.size = gp at *
              rw [← HPP.out] at HPM
              clear HPP
              obtain ⟨vo0, hvo0⟩ : ∃ x, Value.slice (some ⟨wd.heap.size, 0, none⟩) 2 2 = x := ⟨_, rfl⟩
              rw [hvo0] at HPM
              refine (HPM.out.next_call (by omega) 4 (by omega) (by omega)).mono ?_
              rintro e wh ⟨s3, hs3, rfl, hp⟩
              have q7 : wh.cell? ⟨gp, 7, none⟩ = some (.int .i64 0) := hp.cells 7
              have q7f : wh.frozen? ⟨gp, 7, none⟩ = false := hp.free 7
              have HPM2 : Hid (Pm SS 0 gt gr gf gp w (wh.setCell ⟨gp, 7, none⟩ (.int .i64 (s3 : Int))) (_) ex vl vm v n _ o (polAgg s (K : Int) (Mm : Int) ((K : Int) + (rQ : Int)) 0 0 0 (s3 : Int) 0 vo0 nilV (.slice Ua ma ca) (.slice Xa ka da) (.slice Ub mb cb) (.slice Xb kb db)) NoOwn nilV [] (TT vo0 (.slice Ua ma ca) (.slice Xa ka da) (.slice Ub mb cb) (.slice Xb kb db))) := hid (hp.set 7 (.int .i64 (s3 : Int)) (pol_set.1 _) hp.froz)
              clear hp HPM
              go_wp2_with fail
              clear q7 q7f
              generalize wh.setCell ⟨gp, 7, none⟩ (.int .i64 (s3 : Int)) = wi at *
              refine (HPM2.out.next_call (by omega) 3 (by omega) (by omega)).mono ?_
              rintro e wj ⟨s4, hs4, rfl, hp⟩
              have q7 : wj.cell? ⟨gp, 8, none⟩ = some (.int .i64 0) := hp.cells 8
              have q7f : wj.frozen? ⟨gp, 8, none⟩ = false := hp.free 8
              have HPM3 : Hid (Pm SS 0 gt gr gf gp w (wj.setCell ⟨gp, 8, none⟩ (.int .i64 (s4 : Int))) (_) ex vl vm v n _ o (polAgg s (K : Int) (Mm : Int) ((K : Int) + (rQ : Int)) 0 0 0 (s3 : Int) (s4 : Int) vo0 nilV (.slice Ua ma ca) (.slice Xa ka da) (.slice Ub mb cb) (.slice Xb kb db)) NoOwn nilV [] (TT vo0 (.slice Ua ma ca) (.slice Xa ka da) (.slice Ub mb cb) (.slice Xb kb db))) := hid (hp.set 8 (.int .i64 (s4 : Int)) (pol_set.2.1 _) hp.froz)
              clear hp HPM2
              go_wp2_with fail
              clear q7 q7f
              generalize wj.setCell ⟨gp, 8, none⟩ (.int .i64 (s4 : Int)) = wk at *
              refine (HPM3.out.next_call (by omega) 5 (by omega) (by omega)).mono ?_
              rintro e wl ⟨r9, hr9, rfl, hp⟩
              have HPM4 := hid hp
              clear hp HPM3
              go_upto_if 163 with fail
              as_aux_lemma => -- R3c
                go_cut [] (fun wx => ∃ (vo : Value) (I5 : Nat) (Mx : Own), Hid (I5 ≤ I + 6) ∧ Hid (Pm SS 0 gt gr gf gp w wx I5 ex vl vm v n Mx o (polAgg s (K : Int) (Mm : Int) ((K : Int) + (rQ : Int)) 0 0 0 (s3 : Int) (s4 : Int) vo nilV (.slice Ua ma ca) (.slice Xa ka da) (.slice Ub mb cb) (.slice Xb kb db)) NoOwn nilV [] (TT vo (.slice Ua ma ca) (.slice Xa ka da) (.slice Ub mb cb) (.slice Xb kb db))))
                case first =>
                 as_aux_lemma => -- R3f
                  by_cases h9 : r9 = 0
                  · subst h9
                    have q7 : wl.cell? ⟨gp, 9, none⟩ = some vo0 := HPM4.out.cells 9
                    have q7f : wl.frozen? ⟨gp, 9, none⟩ = false := HPM4.out.free 9
                    have hltp : gp < wl.heap.size := HPM4.out.base.under _ HPM4.out.mem.1
                    go_wp2_with fail
                    go_meet
                    have HBX := (Below.refl wl.heap.size wl).alloc (Nat.le_refl _) (.cells #[.int .i64 0] 3)
                    have hnew := heap_alloc_new wl (.cells #[.int .i64 0] 3)
                    have hun := HPM4.out.base.under
                    have hweq : (wl.setCell ⟨gp, 9, none⟩ (.slice (some ⟨wl.heap.size, 0, none⟩) 1 1)).alloc (.cells #[.int .i64 0] 3) = (wl.alloc (.cells #[.int .i64 0] 3)).setCell ⟨gp, 9, none⟩ (.slice (some ⟨wl.heap.size, 0, none⟩) 1 1) := (World.setCell_alloc_past _ _ _ _ hltp).symm
                    have hx := (HPM4.out.below HBX).set (T' := TT (.slice (some ⟨wl.heap.size, 0, none⟩) 1 1) (.slice Ua ma ca) (.slice Xa ka da) (.slice Ub mb cb) (.slice Xb kb db)) 9 (.slice (some ⟨wl.heap.size, 0, none⟩) 1 1) (pol_set.2.2.1 _) (fun w' hf => ⟨⟨1, nums_block (l := [0]) (SupU.block (w0 := wl) (Nat.le_refl _) hnew _ hun w' hf) (by decide)⟩, ((HPM4.out.froz.below HBX) w' hf).2⟩)
                    rw [← hweq] at hx
                    exact ⟨_, _, _, hid (by omega), hid hx⟩
                  · have h91 : ((r9 : Int) == 0) = false := by rw [beq_eq_false_iff_ne]; omega
                    go_wp2_with fail
                    go_meet
                    exact ⟨vo0, I + 1 + 1 + 1 + 1 + 1 + 1, _, hid (by omega), HPM4⟩
                case rest =>
                  clear HPM4
                  obtain ⟨vo, I5, Mx, HI5, HPM⟩ := hcut
                  obtain ⟨mx, hmx⟩ : ∃ k, max Mm 1 = k := ⟨_, rfl⟩
                  have hmx2 : 1 ≤ mx ∧ mx ≤ 2 := by omega
                  have hmxI : max (Mm : Int) 1 = (mx : Int) := by omega
                  obtain ⟨f0, hf0, hfz, hfs, hfb⟩ := info_parts Try.info_fr
                  go_wp2_with fail
                  go_loopg [18] mx (fun gh c wr => ∃ (i : Nat) (My : Own) (orp : Own) (vr : Value) (LR : List (List Value)), Hid (gh + i = mx) ∧ c = .int .i64 (i : Nat) ∧ Hid (LR.length = i) ∧ Hid (Pm SS 0 gt gr gf gp w wr I5 ex vl vm v n My o (polAgg s (K : Int) (Mm : Int) ((K : Int) + (rQ : Int)) 0 0 0 (s3 : Int) (s4 : Int) vo vr (.slice Ua ma ca) (.slice Xa ka da) (.slice Ub mb cb) (.slice Xb kb db)) orp vr LR (TT vo (.slice Ua ma ca) (.slice Xa ka da) (.slice Ub mb cb) (.slice Xb kb db))))
                  case atStart => exact ⟨0, Mx, NoOwn, nilV, [], hid (by omega), rfl, hid rfl, HPM⟩
                  case round =>
                    clear HPM
                    obtain ⟨i, My, orp, vr, LR, HG, rfl, HL, HPR⟩ := hrel
                    have hgi := HG.out
                    by_cases hlt : i < mx
                    · as_aux_lemma => -- R3d
                        obtain ⟨A, cc, hvr, hcc, hccm, _⟩ := HPR.out.rep.at_
                        rw [HL.out] at hvr hcc
                        subst hvr
                        unfold maxLen at hccm
                        have q4 : wr.cell? ⟨gp, 10, none⟩ = some (.slice A i cc) := HPR.out.cells 10
                        have hltp : gp < wr.heap.size := HPR.out.base.under _ HPR.out.mem.1
                        have HO := hid (show OwnSl wr orp 3 (.slice A i cc) i LR.flatten from by
                          have := HPR.out.rep.own
                          rwa [HL.out] at this)
                        have HS := hid (fun (W : World) (hW : Below wr.heap.size wr W) => (hW.cell (p := ⟨gp, 10, none⟩) hltp).trans q4)
                        have HOP := hid (And.intro HPR.out.far.2 (fun k hk => HPR.out.base.under _ (HPR.out.mem.2 k hk) : Under wr orp))
                        clear q4 hltp
                        go_upto_region 37 with fail
                        have HWv := hid ((Below.refl wr.heap.size wr).drew)
                        have q4w : wr.drew.cell? ⟨gp, 10, none⟩ = some (.slice A i cc) := HS.out _ HWv.out
                        go_region_law
                          ((first
                            | (go_simp; go_at_call 12; refine (frac_any 1 2 (by omega) (by omega) (by omega) (.inr (by decide)) _).mono ?_; rintro e wx hfr; obtain ⟨u, x1, a3, b3, rfl, hu, hx, hb0, hsu, hb⟩ := hfr.sup; obtain ⟨Uc, mc, ec, rfl⟩ := hu.sl; obtain ⟨Xc, kc, dc, rfl⟩ := hx.sl; have HSU := hid (hsu.le HWv.out.size); replace HWv := hid (HWv.out.trans (hb.mono HWv.out.size)); have q4x := HS.out _ HWv.out; have q4y := HS.out _ (HWv.out.alloc HWv.out.size (.cells (frRow (.slice Uc mc ec) (.slice Xc kc dc)).toArray 48)); have HB0 := hid hb0; clear hu hx hsu hb hb0 hfr)
                            | (refine step_append_sl (by rfl) (.tmp 173) (.tmp 175) 44 (by rfl) 48 f0 _ 3 56 Try.underlying44 hf0 hfz hfs hfb rfl (by decide) orp (.slice A i cc) _ i 1 LR.flatten (frRow (.slice Uc mc ec) (.slice Xc kc dc)) (by rfl) (by rfl) (HO.out.below (HWv.out.alloc HWv.out.size _)) ⟨rfl, .inr ⟨_, 1, rfl, World.news_of_block (cs := (frRow (.slice Uc mc ec) (.slice Xc kc dc)).toArray) (fr := (0, 0)) (heap_alloc_new _ _)⟩⟩ (by intro u hu; simp at hu; rcases hu with rfl | rfl | rfl <;> rfl) (by unfold maxLen; omega) (by omega) ?_; intro v6 w6 hown6 hgrow; rw [← HL.out] at hown6; have HAP := hid (add_post (t := 50) (fi := 10) HPR.out.row HPR.out.rep HOP.out.1 HOP.out.2 (HWv.out.alloc HWv.out.size _) hown6 hgrow rfl); have q0 : w6.cell? ⟨gp, 10, none⟩ = some (.slice A i cc) := HAP.out.cell; have q1 := HAP.out.frozen; replace HSU := hid (HSU.out.below ((Below.refl _ _).alloc (Nat.le_refl _) (.cells (frRow (.slice Uc mc ec) (.slice Xc kc dc)).toArray 48))); obtain ⟨A6, c6, rfl, _⟩ := hown6.form; clear hown6 hgrow)))
                        all_goals
                          clear q0 q1
                          have HPR2 := hid (HPR.out.rate (pol_set.2.2.2 _) HAP.out (HSU.out My HPR.out.base.under) HB0.out)
                          have HL2 := hid (show (LR ++ [frRow (.slice Uc mc ec) (.slice Xc kc dc)]).length = i + 1 from by rw [List.length_append, HL.out]; rfl)
                          clear HAP HSU HB0 HO HS HOP HWv HPR
                          go_wp2_with fail
                          go_roundg (mx - (i + 1))
                          case measure => omega
                          case rel => exact ⟨i + 1, _, _, _, _, hid (by omega), by go_num, HL2, HPR2⟩
                    · as_aux_lemma => -- R3e
                        obtain rfl : mx = i := by omega
                        obtain ⟨M2, hmk2, hsup⟩ := HPR.out.done ⟨by omega, by omega⟩ (by omega) (fun _ h => h)
                        obtain ⟨mo, Ao, co, rfl, _⟩ := HPR.out.froz.now.1
                        obtain ⟨Ar, cr, hvr, _, _, _⟩ := HPR.out.rep.at_
                        subst hvr
                        have HROWP := hid HPR.out.row
                        have HMK2 := hid hmk2
                        have HSUP := hid hsup
                        obtain ⟨L, hL, hR, hQ⟩ := hmk2.comp 2 (by omega)
                        obtain ⟨A, cc, hv2, hcc, hccm, _⟩ := hR.at_
                        have hLn : L.length = n2 := hL.trans HN.out.2.2.1
                        rw [hLn] at hv2 hcc
                        unfold maxLen at hccm
                        have q5 : wr.cell? ⟨gf, 5, none⟩ = some (.slice A n2 cc) := by
                          rw [← hv2]
                          exact hmk2.cells 5
                        have HO := hid (show OwnSl wr (o 2) 17 (.slice A n2 cc) n2 L.flatten from by
                          have := hR.own
                          rw [hv2, hLn] at this
                          exact this)
                        have HRO := hid (show RowsOwn wr (o 2) 17 (v 2) L from hR)
                        have HQ2 := hid hQ
                        have HV2 := hid hv2
                        have HLL := hid (And.intro hL hLn)
                        have hn2 : n2 ≤ 2 := by omega
                        obtain ⟨p0, hp0, hpz, hps, hpb⟩ := info_parts Try.info_pol
                        have HSL := hid (sliced_pol s (K : Int) (Mm : Int) ((K : Int) + (rQ : Int)) 0 0 0 (s3 : Int) (s4 : Int) (.slice Ao mo co) (.slice Ar LR.length cr) (.slice Ua ma ca) (.slice Xa ka da) (.slice Ub mb cb) (.slice Xb kb db))
                        have HP1 := hid (pol_one (nm := s) (K := (K : Int)) (M := (Mm : Int)) (Q := (K : Int) + (rQ : Int)) (s0 := 0) (s1 := 0) (s2 := 0) (s3 := (s3 : Int)) (s4 := (s4 : Int)) (vm := .slice Ao mo co) (vr := .slice Ar LR.length cr) (u1 := .slice Ua ma ca) (v1 := .slice Xa ka da) (u2 := .slice Ub mb cb) (v2 := .slice Xb kb db) (by intro u hu; simp at hu; rcases hu with rfl | rfl | rfl | rfl | rfl | rfl <;> exact ⟨_, _, _, rfl⟩))
                        have HPS := hid (show (polAgg s (K : Int) (Mm : Int) ((K : Int) + (rQ : Int)) 0 0 0 (s3 : Int) (s4 : Int) (.slice Ao mo co) (.slice Ar LR.length cr) (.slice Ua ma ca) (.slice Xa ka da) (.slice Ub mb cb) (.slice Xb kb db)).size = 17 from rfl)
                        have HK2 := hid (And.intro hKI.symm hM1I)
                        have HKB := hid (show 1 ≤ K ∧ K ≤ 2 ∧ Mm ≤ 2 from ⟨by omega, by omega, by omega⟩)
                        clear hL hR hQ hv2 hLn hmk2 hsup HPR
                        generalize hpp : (polAgg s (K : Int) (Mm : Int) ((K : Int) + (rQ : Int)) 0 0 0 (s3 : Int) (s4 : Int) (.slice Ao mo co) (.slice Ar LR.length cr) (.slice Ua ma ca) (.slice Xa ka da) (.slice Ub mb cb) (.slice Xb kb db)) = pp at *
                        have HPP := hid hpp
                        clear hpp
                        have HBX := hid ((Below.refl wr.heap.size wr).alloc (Nat.le_refl _) (.cells pp 50))
                        go_upto_region 38 with fail
                        go_wp2_with (first
                          | (refine wpList_load_row rfl 50 (.tmp 17) rfl gp rfl 50 pp (0, 0) _ HROWP.out Try.underlying50 rfl (pol_size.trans (congrArg some HPS.out.symm)) ?_)
                          | (refine wpList_sliced rfl 30 50 1 #[(0, .tmp 180)] rfl [(0, .agg pp)] (by as_aux_lemma => kernel_rfl) Try.underlying30 pp HSL.out ?_)
                          | (at_builtin; refine wpList_append_sl (by rfl) (.tmp 179) (.tmp 181) 30 (by rfl) 50 p0 _ 17 240 Try.underlying30 hp0 hpz hps hpb rfl (by decide) (o 2) (.slice A n2 cc) (.slice (some ⟨wr.heap.size, 0, none⟩) 1 1) n2 1 L.flatten pp.toList (by rfl) (by rfl) (HO.out.below HBX.out) ⟨by rw [Array.length_toList, HPS.out], .inr ⟨_, 1, rfl, World.news_of_block (cs := pp) (fr := (0, 0)) (heap_alloc_new wr _)⟩⟩ HP1.out (by unfold maxLen; omega) (by omega) ?_))
                        intro v6 w6 hown6 hgrow
                        rw [← HLL.out.2] at hown6
                        have HAP := hid (add_post (t := 33) (fi := 5) HMK2.out.row HRO.out (fun k hk => (HMK2.out.sub 2 (by omega) k hk).2) (fun k hk => HMK2.out.under _ (HMK2.out.sub 2 (by omega) k hk).1) HBX.out hown6 hgrow (by rw [Array.length_toList, HPS.out]))
                        have q0 : w6.cell? ⟨gf, 5, none⟩ = some (.slice A n2 cc) := HAP.out.cell.trans (by rw [← HV2.out]; rfl)
                        have q1 := HAP.out.frozen
                        obtain ⟨A6, c6, rfl, _⟩ := hown6.form
                        have HE7 : Hid (MkE SS 0 gt gr gf w ex vl vm I5 n0 n1 (n2 + 1) 0 (w6.setCell ⟨gf, 5, none⟩ (.slice A6 (L.length + 1) c6))) := hid ⟨_, _, _, _, Mk.grow 2 (by omega) HMK2.out HLL.out.1 HQ2.out HAP.out rfl ⟨s, K, Mm, _, _, _, _, _, _, _, _, _, _, _, _, by rw [← HPP.out], HKB.out.1, HKB.out.2.1, HKB.out.2.2, HAP.out.sup M2 _ HMK2.out.under (fun k e => by
                          rcases e with e | e
                          · rw [show k = gf from e]; exact HMK2.out.mem.2.2
                          · exact (HMK2.out.sub 2 (by omega) k e).1) (HSUP.out.below HBX.out)⟩, by rw [upd_ne _ _ _ (by omega)]; exact HN.out.1, by rw [upd_ne _ _ _ (by omega)]; exact HN.out.2.1, by rw [upd_same, HN.out.2.2.1], by rw [upd_ne _ _ _ (by omega)]; exact HN.out.2.2.2⟩
                        have hp1 : (p : Int) - 1 = ((p - 1 : Nat) : Int) := by omega
                        have hI5 := HI5.out
                        clear hown6 hgrow HAP HRO HQ2 HV2 HLL HSL HP1 HPS HPP HSUP HMK2 HROWP HO HBX
                        go_wp2_with fail
                        go_roundg (p - 1)
                        case measure => omega
                        case rel => exact ⟨p - 1, I5, n2 + 1, hid (Nat.le_refl _), rfl, hid (by omega), HE7⟩

end Go.Proofs.Ytpoaadjhaknhdaa
