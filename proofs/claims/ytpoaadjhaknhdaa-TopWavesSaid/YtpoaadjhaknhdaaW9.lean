/- Fractions of numbers of one limb: times, zero, Valid, lowest. -/
import Derived.Test.YtpoaadjhaknhdaaW8
import Derived.Laws.CopyOwn
import Derived.Laws.Rows
import Derived.Laws.Tables
namespace Go.Proofs.Ytpoaadjhaknhdaa
open Go Go.RowKit Go.Sort Go.Deep

abbrev frAgg (g : Bool) (u v : Value) : Value := .agg #[.bool g, u, v]
theorem fr_size : (Try.prog.info? 48).map (·.size) = some 3 := by kernel_rfl
theorem One.sl {w : World} {v : Value} {n : Nat} (h : One w v n) : ∃ A k c, v = .slice A k c := by
  obtain ⟨A, c, e, _⟩ := h.form
  exact ⟨A, _, c, e⟩
theorem One.one' {w : World} {v : Value} {n : Nat} (h : One w v n) : v.oneCell' = true := by
  rcases h.cases with ⟨_, A, c, rfl, _⟩ | ⟨_, g, off, c, rfl, _⟩ <;> rfl
theorem One.setRow {w : World} {v : Value} {n g : Nat} {b : Bool} {x y : Value} {t : TypeId} (h : One w v n) (hg : w.heap[g]? = some (.cells #[.bool b, x, y] t (0, 0))) (hx : ∀ k i, x ≠ .int k i) (hy : ∀ k i, y ≠ .int k i) (cs : Array Value) : One (w.setRow g cs) v n := by
  rcases h.cases with ⟨rfl, A, c, rfl, hc, hA, hsp⟩ | ⟨h0, gb, off, c, rfl, e1, e2, e3, hz⟩
  · cases A with
    | none => rw [hA rfl]; exact One.nil _
    | some q =>
      obtain ⟨s1, s2⟩ := hsp q rfl
      obtain ⟨qb, qo, qs⟩ := q
      dsimp only at s1
      subst s1
      exact One.empty (by simpa using s2) hc
  · refine One.mk (by simpa using e1) e2 e3 h0 h.1 ?_
    rw [cell_setRow_other _ _ _ _ ?_]
    · exact hz
    · intro e
      dsimp only at e
      subst e
      rw [cell_block hg off] at hz
      match off, hz with
      | 0, hz => simp at hz
      | 1, hz => simp at hz; exact hx _ _ hz
      | 2, hz => simp at hz; exact hy _ _ hz
      | k + 3, hz => simp at hz
theorem One.noint {w : World} {v : Value} {n : Nat} (h : One w v n) : ∀ k i, v ≠ .int k i := by
  rcases h.cases with ⟨_, A, c, rfl, _⟩ | ⟨_, g, off, c, rfl, _⟩ <;> (intro k i e; cases e)
theorem results_cell_pair {P : Program} {fn : Func} {p q : Tmp} {ty : TypeId} (h : fn.results = #[.cell p ty, .tmp q]) (tmps : Array Value) (w : World) (g : Nat) (t : TypeId) (cs : Array Value) (fr : Nat × Nat) (d : TypeDesc)
    (hp : tmps.getD p undef = .pointer (some ⟨g, 0, none⟩)) (hg : w.heap[g]? = some (.cells cs t fr))
    (hu : P.underlying ty = some d) (hd : (match d with | .struct _ | .array _ _ => true | _ => false) = true) (hi : (P.info? ty).map (·.size) = some cs.size) :
    (results fn tmps).run P w = .ok (.tuple #[.agg cs, tmps.getD q undef]) w := by
  have hp' : tmps[p]?.getD undef = .pointer (some ⟨g, 0, none⟩) := by simpa using hp
  simp [results, h, hp', asAddr, run_loadVar_row w g t ty cs fr d hg hu hd hi]
section
variable {w : World} {u v : Value} {a b : Nat}
set_option maxRecDepth 100000 in
theorem times_one (ha : One w u a) (hb : One w v b) (hs : a * b < 4294967296) : Calls Try.prog 72 #[u, v] w fun e w' => ∃ v', e = .returned v' ∧ One w' v' (a * b) ∧ Below w.heap.size w w' := by
  have HM := hid (mul_one ha hb hs)
  go_enter Try.func72, Try.ntmps72
  go_wp2_with fail
  refine HM.out.mono ?_
  rintro e w2 ⟨v2, rfl, h2, hb2⟩
  go_wp2
  go_ret
  exact ⟨_, rfl, h2, hb2⟩
set_option maxRecDepth 100000 in
theorem zero_fr {g : Bool} (ha : One w u a) : Calls Try.prog 73 #[frAgg g u v] w fun e w' => e = .returned (.bool (a == 0)) ∧ Below w.heap.size w w' := by
  have HA := hid ha
  have hb : (((bitsN a : Nat) : Int) == 0) = (a == 0) := by
    by_cases h0 : a = 0
    · subst h0; rfl
    · have := bitsN_pos (show 0 < a by omega)
      rw [beq_eq_false_iff_ne.2 h0, beq_eq_false_iff_ne]
      omega
  obtain ⟨c, hc⟩ : ∃ c, (a == 0) = c := ⟨_, rfl⟩
  rw [hc] at hb ⊢
  clear hc
  have HG := heap_alloc_new w (.cells #[.bool g, u, v] 48)
  have z1 : (w.alloc (.cells #[.bool g, u, v] 48)).cell? ⟨w.heap.size, 1, none⟩ = some u := cell_block HG 1
  go_enter Try.func73, Try.ntmps73
  go_wp2_with fail
  refine (bits_one (HA.out.below ((Below.refl _ _).alloc (Nat.le_refl _) _))).mono ?_
  rintro e w2 ⟨rfl, rfl⟩
  go_wp2
  go_ret
  exact ⟨by rfl, (Below.refl _ _).alloc (Nat.le_refl _) _⟩
set_option maxRecDepth 100000 in
theorem valid_fr {g : Bool} (ha : One w u a) (hb : One w v b) (b0 : 0 < b) : Calls Try.prog 70 #[frAgg g u v] w fun e w' => e = .returned (.bool true) ∧ Below w.heap.size w w' := by
  have hbl := (Below.refl w.heap.size w).alloc (Nat.le_refl _) (.cells #[.bool g, u, v] 48)
  have HA := hid (ha.below hbl)
  have HB := hid (hb.below hbl)
  have h1 := bitsN_le a
  have h2 := bitsN_le b
  have h3 := bitsN_pos b0
  have HG := heap_alloc_new w (.cells #[.bool g, u, v] 48)
  have z1 : (w.alloc (.cells #[.bool g, u, v] 48)).cell? ⟨w.heap.size, 1, none⟩ = some u := cell_block HG 1
  have z2 : (w.alloc (.cells #[.bool g, u, v] 48)).cell? ⟨w.heap.size, 2, none⟩ = some v := cell_block HG 2
  go_enter Try.func70, Try.ntmps70
  go_wp2_with fail
  refine (bits_one HB.out).mono ?_
  rintro e w2 ⟨rfl, rfl⟩
  generalize bitsN b = kb at *
  go_wp2_with fail
  refine (bits_one HA.out).mono ?_
  rintro e w2 ⟨rfl, rfl⟩
  generalize bitsN a = ka at *
  go_wp2
  go_ret
  exact ⟨by simp; omega, hbl⟩
set_option maxRecDepth 100000 in
set_option maxHeartbeats 1600000 in
theorem lowest_fr (ha : One w u a) (hb : One w v b) (b0 : 0 < b) : Calls Try.prog 68 #[.bool false, u, v] w fun e w' => ∃ u' v' a' b', e = .returned (.tuple #[frAgg false u' v', .int .i64 0]) ∧ One w' u' a' ∧ One w' v' b' ∧ a' ≤ a ∧ 0 < b' ∧ b' ≤ b ∧ Below w.heap.size w w' := by
  have hbl := (Below.refl w.heap.size w).alloc (Nat.le_refl _) (.cells #[.bool false, .slice none 0 0, .slice none 0 0] 48)
  have HA := hid (ha.below hbl)
  have HB := hid (hb.below hbl)
  have HG := hid (heap_alloc_new w (.cells #[.bool false, .slice none 0 0, .slice none 0 0] 48))
  have HBL := hid hbl
  obtain ⟨d, hd⟩ : ∃ d, Nat.gcd a b = d := ⟨_, rfl⟩
  have d0 : 0 < d := by rw [← hd]; exact Nat.gcd_pos_of_pos_right _ b0
  have hdb : d ≤ b := by rw [← hd]; exact Nat.gcd_le_right _ b0
  have HD := hid hd
  clear ha hb hbl hd
  go_enter Try.func68, Try.ntmps68
  go_wp2_with fail
  generalize w.alloc (.cells #[.bool false, .slice none 0 0, .slice none 0 0] 48) = w1 at *
  refine (gcd_one HA.out HB.out).mono ?_
  rintro e w2 ⟨vg, rfl, hg, hb2⟩
  rw [HD.out] at hg
  have HG2 := hid hg
  have HB2 := hid hb2
  clear hg hb2
  go_wp2_with fail
  refine (bits_one HG2.out).mono ?_
  rintro e w3 ⟨rfl, rfl⟩
  have hbd : (1 : Int) < ((bitsN d : Nat) : Int) ↔ 1 < d := by
    constructor
    · intro h
      rcases Nat.lt_or_ge 1 d with h1 | h1
      · exact h1
      · obtain rfl : d = 1 := by omega
        rw [bitsN_1] at h
        omega
    · intro h
      have := bitsN_one h
      omega
  have hbn := bitsN_le d
  generalize bitsN d = kd at *
  have HBD := hid hbd
  clear hbd
  go_upto_if 18 with fail
  go_cut [1, 2] (fun p q wx => ∃ a' b' : Nat, Hid (One wx p a') ∧ Hid (One wx q b') ∧ Hid (a' ≤ a ∧ 0 < b' ∧ b' ≤ b) ∧ Hid (Below w1.heap.size w1 wx))
  case first =>
    have HA2 := hid (HA.out.below HB2.out)
    have HBB := hid (HB.out.below HB2.out)
    by_cases hk : (1 : Int) < (kd : Int)
    · have hd1 := HBD.out.1 hk
      go_wp2_with fail
      refine (div_one HA2.out HG2.out d0).mono ?_
      rintro e w4 ⟨q4, r4, rfl, hq4, _, hb4⟩
      have HQ4 := hid hq4
      have HG4 := hid (HG2.out.below hb4)
      have HB4 := hid (HBB.out.below hb4)
      have HX4 := hid (HB2.out.trans (hb4.mono HB2.out.size))
      clear hq4 hb4
      go_wp2_with fail
      refine (div_one HB4.out HG4.out d0).mono ?_
      rintro e w5 ⟨q5, r5, rfl, hq5, _, hb5⟩
      have HQ5 := hid hq5
      have HQ45 := hid (HQ4.out.below hb5)
      have HX5 := hid (HX4.out.trans (hb5.mono HX4.out.size))
      clear hq5 hb5
      go_wp2_with fail
      go_meet
      exact ⟨_, _, HQ45, HQ5, hid ⟨Nat.div_le_self _ _, Nat.div_pos hdb d0, Nat.div_le_self _ _⟩, HX5⟩
    · go_wp2_with fail
      go_meet
      exact ⟨_, _, HA2, HBB, hid ⟨Nat.le_refl _, b0, Nat.le_refl _⟩, HB2⟩
  case rest =>
    obtain ⟨a', b', HP, HQ, HAB, HX⟩ := hcut
    have h1 := bitsN_le a'
    have h2 := bitsN_le b'
    go_wp2_with fail
    refine (bits_one HP.out).mono ?_
    rintro e w3 ⟨rfl, rfl⟩
    go_wp2_with fail
    refine (bits_one HQ.out).mono ?_
    rintro e w3 ⟨rfl, rfl⟩
    go_wp2_with fail
    refine (trim_one HP.out).mono ?_
    rintro e w4 ⟨p4, rfl, hp4, hb4⟩
    obtain ⟨Ap, kp, cp, rfl⟩ := hp4.sl
    have HP4 := hid hp4
    have HQ4 := hid (HQ.out.below hb4)
    have HX4 := hid (HX.out.trans (hb4.mono HX.out.size))
    clear hp4 hb4
    go_wp2_with fail
    refine (trim_one HQ4.out).mono ?_
    rintro e w5 ⟨q5, rfl, hq5, hb5⟩
    obtain ⟨Aq, kq, cq, rfl⟩ := hq5.sl
    have HQ5 := hid hq5
    have HP5 := hid (HP4.out.below hb5)
    have HX5 := hid (HX4.out.trans (hb5.mono HX4.out.size))
    clear hq5 hb5
    have hg5 : w5.heap[w.heap.size]? = some (.cells #[.bool false, .slice none 0 0, .slice none 0 0] 48 (0, 0)) := (HX5.out.block _ (Array.getElem?_eq_some_iff.1 HG.out).1).trans HG.out
    go_wp2_with (refine wpList_store_row rfl 48 (.tmp 6) (.tmp 52) rfl w.heap.size #[.bool false, .slice Ap kp cp, .slice Aq kq cq] rfl rfl 48 _ hg5 fr_size rfl (by simp [HP5.out.one', HQ5.out.one', Value.oneCell']) ?_)
    have hn1 : ∀ k i, Value.slice none 0 0 ≠ .int k i := fun k i e => by cases e
    have HP6 := hid (HP5.out.setRow hg5 hn1 hn1 #[.bool false, .slice Ap kp cp, .slice Aq kq cq])
    have HQ6 := hid (HQ5.out.setRow hg5 hn1 hn1 #[.bool false, .slice Ap kp cp, .slice Aq kq cq])
    have HB6 := hid (below_setRow (HBL.out.trans (HX5.out.mono HBL.out.size)) (Nat.le_refl _) #[.bool false, .slice Ap kp cp, .slice Aq kq cq])
    have hg6 := setRow_heap w5 w.heap.size _ #[.bool false, .slice Ap kp cp, .slice Aq kq cq] _ _ hg5
    clear hg5 hn1
    generalize w5.setRow w.heap.size #[.bool false, .slice Ap kp cp, .slice Aq kq cq] = w6 at *
    go_wp2
    refine bodyPost_ret (results_cell_pair Try.results68 _ _ w.heap.size _ _ _ _ rfl hg6 Try.underlying48 rfl fr_size) rfl ⟨_, _, _, _, rfl, HP6.out, HQ6.out, HAB.out.1, HAB.out.2.1, HAB.out.2.2, HB6.out⟩
end
end Go.Proofs.Ytpoaadjhaknhdaa
