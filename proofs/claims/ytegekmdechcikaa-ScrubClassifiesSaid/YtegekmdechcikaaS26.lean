/- ScrubClassifies. -/
import Derived.Test.YtegekmdechcikaaS20
namespace Go.Proofs.Ytegekmdechcikaa
open Go Go.RowKit Go.Sort
attribute [local go_sem ↓] Go.wp_at_zero Go.wp_at_succ

theorem want_cells {w : World} {b : Nat} {x : Wt} (h : ValsAt w b x.cells) : w.cell? ⟨b, 0, none⟩ = some (.int .i64 x.slot) ∧ w.cell? ⟨b, 1, none⟩ = some (.int .i64 x.pc.vol) ∧ w.cell? ⟨b, 2, none⟩ = some (.int .i64 x.pc.frag) ∧ w.cell? ⟨b, 3, none⟩ = some (.int .i64 x.pc.stripe) ∧ w.cell? ⟨b, 4, none⟩ = some (.int .i64 x.pc.gen) ∧ w.cell? ⟨b, 5, none⟩ = some (.int .i64 x.pc.ver) ∧ w.cell? ⟨b, 6, none⟩ = some (.string x.pc.data) :=
  ⟨h.cell 0 (by simp), h.cell 1 (by simp), h.cell 2 (by simp), h.cell 3 (by simp), h.cell 4 (by simp), h.cell 5 (by simp), h.cell 6 (by simp)⟩
theorem held_cells {w : World} {b : Nat} {x : Hd} (h : ValsAt w b x.cells) : w.cell? ⟨b, 0, none⟩ = some (.int .i64 x.slot) ∧ w.cell? ⟨b, 1, none⟩ = some (.int .i64 x.pc.vol) ∧ w.cell? ⟨b, 2, none⟩ = some (.int .i64 x.pc.frag) ∧ w.cell? ⟨b, 3, none⟩ = some (.int .i64 x.pc.stripe) ∧ w.cell? ⟨b, 4, none⟩ = some (.int .i64 x.pc.gen) ∧ w.cell? ⟨b, 5, none⟩ = some (.int .i64 x.pc.ver) ∧ w.cell? ⟨b, 6, none⟩ = some (.string x.pc.data) :=
  ⟨h.cell 0 (by simp), h.cell 1 (by simp), h.cell 2 (by simp), h.cell 3 (by simp), h.cell 4 (by simp), h.cell 5 (by simp), h.cell 6 (by simp)⟩
theorem Try.info_want : (Try.prog.info? 36).map (fun i => (i.zero, i.size, i.bytes)) = some (some (.agg #[.int .i64 0, .int .i64 0, .int .i64 0, .int .i64 0, .int .i64 0, .int .i64 0, .string ⟨#[]⟩]), 7, 64) := by kernel_rfl
theorem field0 (a b c d e : Int) (s : ByteArray) (W : World) : (Instr.field 23 (.agg #[.int .i64 a, .int .i64 b, .int .i64 c, .int .i64 d, .int .i64 e, .string s]) 0).run Try.prog W = .ok (.int .i64 a) W := by kernel_rfl
theorem field1 (a b c d e : Int) (s : ByteArray) (W : World) : (Instr.field 23 (.agg #[.int .i64 a, .int .i64 b, .int .i64 c, .int .i64 d, .int .i64 e, .string s]) 1).run Try.prog W = .ok (.int .i64 b) W := by kernel_rfl
theorem field2 (a b c d e : Int) (s : ByteArray) (W : World) : (Instr.field 23 (.agg #[.int .i64 a, .int .i64 b, .int .i64 c, .int .i64 d, .int .i64 e, .string s]) 2).run Try.prog W = .ok (.int .i64 c) W := by kernel_rfl
theorem field3 (a b c d e : Int) (s : ByteArray) (W : World) : (Instr.field 23 (.agg #[.int .i64 a, .int .i64 b, .int .i64 c, .int .i64 d, .int .i64 e, .string s]) 3).run Try.prog W = .ok (.int .i64 d) W := by kernel_rfl
theorem field4 (a b c d e : Int) (s : ByteArray) (W : World) : (Instr.field 23 (.agg #[.int .i64 a, .int .i64 b, .int .i64 c, .int .i64 d, .int .i64 e, .string s]) 4).run Try.prog W = .ok (.int .i64 e) W := by kernel_rfl
/-- The Want that is being made, and all else as it was. -/
structure Made (w0 : World) (wb : Nat) (q : Wt) (w : World) : Prop where
  box : ValsAt w wb q.cells
  fr : Fr (fun c => c = wb) w0 w
theorem Made.then {w0 w w' : World} {wb : Nat} {q : Wt} (h : Made w0 wb q w) (hb : Below w.heap.size w w') : Made w0 wb q w' := ⟨h.box.below hb h.box.lt, h.fr.thenBelow hb⟩
theorem wt_one (x : Wt) : ∀ u ∈ x.cells, u.oneCell' = true := by
  intro u hu
  simp at hu
  rcases hu with rfl | rfl | rfl | rfl | rfl | rfl | rfl <;> rfl
theorem OwnSl.argw {w : World} {o : Own} {size n : Nat} {v : Value} {xs : List Value} (h : OwnSl w o size v n xs) (hm : n ≤ maxLen) : ArgSl w size v n xs := by
  refine ⟨h.1, hm, ?_⟩
  obtain ⟨A, cap, rfl, _⟩ := h.form
  refine ⟨A, cap, rfl, fun h0 => ?_⟩
  obtain ⟨g, off, cap, e, _, hg, _, _, hc, _⟩ := h.some_ h0
  injection e with e1 _ _
  exact ⟨g, off, e1, hg, hc⟩
/-- The Want, and the piece near which it is. -/
structure Made2 (w0 : World) (wb xb : Nat) (x : Hd) (q : Wt) (w : World) : Prop where
  made : Made w0 wb q w
  xs : ValsAt w xb x.cells
  ne : xb ≠ wb
theorem Made2.then {w0 w w' : World} {wb xb : Nat} {x : Hd} {q : Wt} (h : Made2 w0 wb xb x q w) (hb : Below w.heap.size w w') : Made2 w0 wb xb x q w' := ⟨h.made.then hb, h.xs.below hb h.xs.lt, h.ne⟩
theorem Made2.put {w0 w : World} {wb xb : Nat} {x : Hd} {q q' : Wt} (h : Made2 w0 wb xb x q w) (k : Nat) (v : Value) (hk : k < 7) (e : q.cells.set k v = q'.cells) : Made2 w0 wb xb x q' (w.setCell ⟨wb, k, none⟩ v) :=
  ⟨⟨by rw [← e]; exact h.made.box.store k v (by simpa using hk), h.made.fr.setCell ⟨wb, k, none⟩ v (.inl rfl)⟩, h.xs.other _ _ h.ne, h.ne⟩
set_option maxRecDepth 100000 in
set_option maxHeartbeats 4000000 in
theorem law_classifies (c r : Int) (nr : Bool) (v1 v2 v3 : Value) (l1 : List Hd) (l2 : List Opr) (l3 : List Wt) (w : World) (h1 : HeldsAt w v1 l1) (h2 : OpsAt w v2 l2) (h3 : WantsAt w v3 l3) :
    Calls Try.prog 9 #[.int .i64 c, .int .i64 r, v1, v2, v3, .bool nr] w fun e w' => e = .returned (.bool true) ∧ Below w.heap.size w w' := by
  have HL1 := hid h1
  have HL2 := hid h2
  have hm3 := h3.2.1
  obtain ⟨_, _, A3, cap3, rfl, hc3⟩ := h3
  obtain ⟨_, _, A1, cap1, rfl, hc1⟩ := h1
  have HC3 := hid hc3
  have HC1 := hid hc1
  clear h2 hc3 hc1
  go_enter Try.func9, Try.ntmps9
  go_wp2_with fail
  refine (light27_any HL1.out HL2.out).mono ?_
  rintro e w1 ⟨lr, rfl, hlr, rfl⟩
  unfold maxLen at hm3
  cases lr
  case false =>
    go_wp2_with (go_at_call 17; refine (awake27 _).mono ?_; rintro e w2 ⟨rfl, hb2⟩)
    go_ret
    exact ⟨rfl, hb2⟩
  case true =>
    obtain ⟨h60, hsm, hn60⟩ := hlr rfl
    have HSM := hid hsm
    clear hlr hsm
    by_cases hl60 : 60 < l3.length
    · go_wp2_with (go_at_call 17; refine (awake27 _).mono ?_; rintro e w2 ⟨rfl, hb2⟩)
      go_ret
      exact ⟨rfl, hb2⟩
    · go_wp2_with fail
      refine (prepared_any c r (clean := False) HL1.out HL2.out HSM.out h60 hn60 (fun h => h.elim)).mono ?_
      rintro e w1 ⟨a, b, o1, o2, S, rfl, hbo, hok, hpe, hab, hb1, _⟩
      have hb2 : Below w1.heap.size w1 (w1.alloc (.cells #[.pointer (some ⟨a, 0, none⟩), .pointer (some ⟨b, 0, none⟩)] 54)) := (Below.refl _ _).alloc (Nat.le_refl _) _
      have hbx : PairBox (w1.alloc (.cells #[.pointer (some ⟨a, 0, none⟩), .pointer (some ⟨b, 0, none⟩)] 54)) w1.heap.size a b := heap_alloc_new w1 _
      have hgm : Game w w1.heap.size a b 120 S (w1.alloc (.cells #[.pointer (some ⟨a, 0, none⟩), .pointer (some ⟨b, 0, none⟩)] 54)) o1 o2 :=
        ⟨hbo.below hb2, hok, hpe, hab, fun e => by have := hbo.under _ e; omega, hbx, hb1.trans (hb2.mono hb1.size)⟩
      have HG := hid hgm
      clear hgm hbx hb2 hbo hab hb1 hok hpe HL2
      go_upto_region 4 with fail
      generalize w1.alloc (.cells #[.pointer (some ⟨a, 0, none⟩), .pointer (some ⟨b, 0, none⟩)] 54) = w2 at *
      generalize w1.heap.size = q at *
      obtain ⟨i0, hi0, hz0, hz1, hz2⟩ := info_parts Try.info_want
      go_wp2_with fail
      go_loopw [15, 16] (fun v i wr => ∃ (k : Nat) (ws : List Wt) (o : Own), k ≤ l3.length ∧ i = .int .i64 k ∧ Hid (OwnSl wr o 7 v k (ws.flatMap Wt.cells)) ∧ Hid (ws.length = k) ∧ Hid (Above w2.heap.size o) ∧ Hid (Under wr o) ∧ Hid (Below w2.heap.size w2 wr)) (fun _ i _ => (l3.length - intOf i).toNat)
      case atStart => exact ⟨0, [], NoOwn, Nat.zero_le _, rfl, OwnSl.nil _ _ _, rfl, fun _ h => h.elim, fun _ h => h.elim, Below.refl _ _⟩
      case round =>
        obtain ⟨k, ws, o, hk, rfl, HV, HK, HA, HU, HB⟩ := hrel
        obtain ⟨B0, cap0, rfl, hcap0⟩ := OwnSl.form HV.out
        by_cases hlt : k < l3.length
        · obtain ⟨bb, off, rfl, hbl, hcell⟩ := HC3.out (by omega)
          have hww := HG.out.below.trans (HB.out.mono HG.out.below.size)
          have hc2 : ∀ j u, (l3.flatMap Wt.cells)[j]? = some u → wr.cell? ⟨bb, off + j, none⟩ = some u := fun j u e => (hww.cell (p := ⟨bb, off + j, none⟩) hbl).trans (hcell j u e)
          have z0 : wr.cell? ⟨bb, off + k * 7, none⟩ = some (.int .i64 l3[k].slot) := WantsAt.cell hc2 k hlt 0 _ (by omega) rfl
          have z1 := WantsAt.cell hc2 k hlt 1 _ (by omega) rfl
          have z2 := WantsAt.cell hc2 k hlt 2 _ (by omega) rfl
          have z3 := WantsAt.cell hc2 k hlt 3 _ (by omega) rfl
          have z4 := WantsAt.cell hc2 k hlt 4 _ (by omega) rfl
          have z5 := WantsAt.cell hc2 k hlt 5 _ (by omega) rfl
          have z6 := WantsAt.cell hc2 k hlt 6 _ (by omega) rfl
          generalize l3[k] = y at *
          clear hc2 hcell hww
          have hbA : Below wr.heap.size wr (wr.alloc (.cells y.cells.toArray 36)) := (Below.refl _ _).alloc (Nat.le_refl _) _
          have hbxA := vals_new wr y.cells 36
          have HVA := hid (OwnSl.below HV.out hbA)
          have HUA := hid (HU.out.mv hbA.size)
          have HNW := hid (show ¬ o wr.heap.size from fun e => by have := HU.out _ e; omega)
          have HBA := hid (HB.out.trans (hbA.mono HB.out.size))
          have HMA := hid (show Made (wr.alloc (.cells y.cells.toArray 36)) wr.heap.size y (wr.alloc (.cells y.cells.toArray 36)) from ⟨hbxA, Fr.refl _ _⟩)
          have HWB := hid (show w2.heap.size ≤ wr.heap.size from HB.out.size)
          clear hbxA hbA HV HU HB
          go_upto_region 11 with fail
          generalize wr.alloc (.cells y.cells.toArray 36) = wA at *
          generalize wr.heap.size = wb at *
          clear z0 z1 z2 z3 z4 z5 z6
          go_cut [57] (fun s57 wy => ∃ t : Bool, s57 = .bool t ∧ (t = true → 0 < l1.length) ∧ wA = wy)
          case first =>
            cases nr
            · go_wp2_with fail
              go_meet
              exact ⟨false, rfl, fun h => by simp at h, rfl⟩
            · go_wp2_with fail
              go_meet
              exact ⟨decide (0 < l1.length), rfl, fun h => by simpa using h, rfl⟩
          case rest =>
            obtain ⟨t, rfl, ht, rfl⟩ := hcut
            go_upto_if 57 with fail
            go_cut [] (fun wy => ∃ qw : Wt, Made wA wb qw wy)
            case first =>
              cases t
              case false =>
                go_wp2_with fail
                go_meet
                exact ⟨y, HMA.out⟩
              case true =>
                have hn1 := ht rfl
                obtain ⟨b1, of1, rfl, hbl1, hcell1⟩ := HC1.out hn1
                obtain ⟨z0, z1, z2, z3, z4, z5, z6⟩ := want_cells HMA.out.box
                have hm0 := Int.emod_nonneg y.slot (show (l1.length : Int) ≠ 0 by omega)
                have hm1 := Int.emod_lt_of_pos y.slot (show (0 : Int) < (l1.length : Int) by omega)
                obtain ⟨s, hs⟩ := Int.eq_ofNat_of_zero_le hm0
                have hs1 : s < l1.length := by omega
                have HS := hid hs
                have hww := HG.out.below.trans (HBA.out.mono HG.out.below.size)
                have hc1 : ∀ j u, (l1.flatMap Hd.cells)[j]? = some u → wA.cell? ⟨b1, of1 + j, none⟩ = some u := fun j u e => (hww.cell (p := ⟨b1, of1 + j, none⟩) hbl1).trans (hcell1 j u e)
                have x0 : wA.cell? ⟨b1, of1 + s * 7, none⟩ = some (.int .i64 l1[s].slot) := HeldsAt.cell hc1 s hs1 0 _ (by omega) rfl
                have x1 := HeldsAt.cell hc1 s hs1 1 _ (by omega) rfl
                have x2 := HeldsAt.cell hc1 s hs1 2 _ (by omega) rfl
                have x3 := HeldsAt.cell hc1 s hs1 3 _ (by omega) rfl
                have x4 := HeldsAt.cell hc1 s hs1 4 _ (by omega) rfl
                have x5 := HeldsAt.cell hc1 s hs1 5 _ (by omega) rfl
                have x6 := HeldsAt.cell hc1 s hs1 6 _ (by omega) rfl
                have HDX := hid (show l1[s].pc.data.size ≤ maxLen from by have := HSM.out l1[s] (List.getElem_mem hs1); unfold maxLen; omega)
                generalize l1[s] = x at *
                clear hc1 hcell1 hww
                go_wp2_with fail
                refine (within_any y.slot (l1.length : Int) wA (by omega) (by omega)).mono ?_
                rintro e wx ⟨rfl, rfl⟩
                rw [HS.out]
                clear hm0 hm1 hs
                have hbB : Below wA.heap.size wA (wA.alloc (.cells x.cells.toArray 58)) := (Below.refl _ _).alloc (Nat.le_refl _) _
                have HM2 := hid (show Made2 wA wb wA.heap.size x y (wA.alloc (.cells x.cells.toArray 58)) from ⟨HMA.out.then hbB, vals_new wA _ _, by have := HMA.out.box.lt; omega⟩)
                have HGB := hid ((HG.out.then HBA.out).then hbB)
                go_upto_region 13 with fail
                clear z0 z1 z2 z3 z4 z5 z6 x0 x1 x2 x3 x4 x5 x6
                generalize wA.alloc (.cells x.cells.toArray 58) = wB at *
                generalize wA.heap.size = xb at *
                have q0 : ∀ n, (wB.drewN n).cell? ⟨xb, 0, none⟩ = some (.int .i64 x.slot) := fun _ => (held_cells HM2.out.xs).1
                have q1 : ∀ n, (wB.drewN n).cell? ⟨q, 1, none⟩ = some (.pointer (some ⟨b, 0, none⟩)) := fun _ => HGB.out.box.cells.2
                have q2 : ∀ n, (wB.drewN n).cell? ⟨b, 0, none⟩ = some (.int .i64 S.claim) := fun _ => HGB.out.both.ref.slots_on.1
                have hcl0 : 1 ≤ S.claim := by have := HG.out.ok.one; have := HG.out.ok.le; omega
                have hcl1 := HG.out.ok.top
                refine wp_region_quiet_tail 9 (fun w' => ∃ n, w' = wB.drewN n) ⟨1, rfl⟩ (by kernel_rfl) (by kernel_rfl) ?_
                simp only [List.take_succ_cons, List.take_zero, List.drop_succ_cons, List.drop_zero]
                repeat (go_big_quiet_step ((go_at_call 13; exact quiet_left (within_any _ _ _ (by omega) (by omega)))))
                refine wpQuiet_nil ?_
                rintro _ ⟨nq, rfl⟩
                have HM3 := hid (HM2.out.then (below_drew wB nq))
                have f0 := HM3.out.made.box.free 0 (by simp)
                obtain ⟨z0, z1, z2, z3, z4, z5, z6⟩ := want_cells HM3.out.made.box
                generalize x.slot % S.claim = sv at *
                have HM4 := hid (show Made2 wA wb xb x ⟨sv, y.pc⟩ ((wB.drewN nq).setCell ⟨wb, 0, none⟩ (.int .i64 sv)) from HM3.out.put 0 _ (by omega) rfl)
                go_upto_region 14 with fail
                clear q0 q1 q2 z0 z1 z2 z3 z4 z5 z6 f0 HM3 HM2 HGB hcl0 hcl1
                generalize (wB.drewN nq).setCell ⟨wb, 0, none⟩ (.int .i64 sv) = wC at *
                obtain ⟨np, hnp⟩ : ∃ np, nearP x.pc = np := ⟨_, rfl⟩
                have HNP := hid hnp
                clear hnp
                go_cut [] (fun wy => ∃ qw : Wt, Made2 wA wb xb x qw wy)
                case first =>
                  have hne := HM4.out.ne
                  have d0 := fun W => field0 np.vol np.frag np.stripe np.gen np.ver np.data W
                  have d1 := fun W => field1 np.vol np.frag np.stripe np.gen np.ver np.data W
                  have d2 := fun W => field2 np.vol np.frag np.stripe np.gen np.ver np.data W
                  replace HM4 := hid (HM4.out.then (w' := wC.drew) ((Below.refl _ _).drew))
                  go_region_held3 (fun w' => w'.cell? ⟨xb, 1, none⟩ = some (.int .i64 x.pc.vol) ∧ w'.cell? ⟨xb, 2, none⟩ = some (.int .i64 x.pc.frag) ∧ w'.cell? ⟨xb, 3, none⟩ = some (.int .i64 x.pc.stripe) ∧ w'.cell? ⟨xb, 4, none⟩ = some (.int .i64 x.pc.gen) ∧ w'.cell? ⟨xb, 5, none⟩ = some (.int .i64 x.pc.ver) ∧ w'.cell? ⟨xb, 6, none⟩ = some (.string x.pc.data))
                    (first | (with_reducible exact (held_cells HM4.out.xs).2) | (with_reducible exact (held_cells (HM4.out.xs.other ⟨wb, 1, none⟩ _ hne)).2) | (with_reducible exact (held_cells ((HM4.out.xs.other ⟨wb, 1, none⟩ _ hne).other ⟨wb, 2, none⟩ _ hne)).2) | (with_reducible exact (held_cells (((HM4.out.xs.other ⟨wb, 1, none⟩ _ hne).other ⟨wb, 2, none⟩ _ hne).other ⟨wb, 3, none⟩ _ hne)).2))
                    ((go_at_call 12; refine (near_p x.pc _ HDX.out).mono ?_; rintro e wx ⟨rfl, hbx⟩; rw [HNP.out]; replace HM4 := hid (HM4.out.then hbx); clear hbx; have g1 := (want_cells HM4.out.made.box).2.1; have g2 := (want_cells HM4.out.made.box).2.2.1; have g3 := (want_cells HM4.out.made.box).2.2.2.1; have e1 := HM4.out.made.box.free 1 (by simp); have e2 := HM4.out.made.box.free 2 (by simp); have e3 := HM4.out.made.box.free 3 (by simp)))
                  all_goals
                    go_wp2_with fail
                    go_meet
                    exact ⟨⟨sv, ⟨np.vol, np.frag, np.stripe, y.pc.gen, y.pc.ver, y.pc.data⟩⟩, ((HM4.out.put (q' := ⟨sv, ⟨np.vol, y.pc.frag, y.pc.stripe, y.pc.gen, y.pc.ver, y.pc.data⟩⟩) 1 _ (by omega) rfl).put (q' := ⟨sv, ⟨np.vol, np.frag, y.pc.stripe, y.pc.gen, y.pc.ver, y.pc.data⟩⟩) 2 _ (by omega) rfl).put 3 _ (by omega) rfl⟩
                case rest =>
                  clear HM4
                  obtain ⟨qw, hM⟩ := hcut
                  have HM4 := hid hM
                  clear hM
                  go_upto_if 95 with fail
                  go_cut [] (fun wy => ∃ qw : Wt, Made2 wA wb xb x qw wy)
                  case first =>
                    obtain ⟨x0, x1, x2, x3, x4, x5, x6⟩ := held_cells HM4.out.xs
                    have d4 := fun W => field4 np.vol np.frag np.stripe np.gen np.ver np.data W
                    go_wp2_with (go_at_call 12; refine (near_p x.pc _ HDX.out).mono ?_; rintro e wx ⟨rfl, hbx⟩; rw [HNP.out]; replace HM4 := hid (HM4.out.then hbx); clear hbx; have g5 := HM4.out.made.box.cell 5 (by simp); have e5 := HM4.out.made.box.free 5 (by simp); simp only [List.getElem_cons_succ, List.getElem_cons_zero] at g5)
                    · go_meet
                      exact ⟨⟨qw.slot, ⟨qw.pc.vol, qw.pc.frag, qw.pc.stripe, qw.pc.gen, np.ver, qw.pc.data⟩⟩, HM4.out.put 5 _ (by omega) rfl⟩
                    · go_meet
                      exact ⟨qw, HM4.out⟩
                  case rest =>
                    clear HM4
                    obtain ⟨qw, hM⟩ := hcut
                    have HM4 := hid hM
                    clear hM
                    go_upto_if 104 with fail
                    go_cut [] (fun wy => ∃ qw : Wt, Made2 wA wb xb x qw wy)
                    case first =>
                      obtain ⟨x0, x1, x2, x3, x4, x5, x6⟩ := held_cells HM4.out.xs
                      have d4 := fun W => field3 np.vol np.frag np.stripe np.gen np.ver np.data W
                      go_wp2_with (go_at_call 12; refine (near_p x.pc _ HDX.out).mono ?_; rintro e wx ⟨rfl, hbx⟩; rw [HNP.out]; replace HM4 := hid (HM4.out.then hbx); clear hbx; have g5 := HM4.out.made.box.cell 4 (by simp); have e5 := HM4.out.made.box.free 4 (by simp); simp only [List.getElem_cons_succ, List.getElem_cons_zero] at g5)
                      · go_meet
                        exact ⟨⟨qw.slot, ⟨qw.pc.vol, qw.pc.frag, qw.pc.stripe, np.gen, qw.pc.ver, qw.pc.data⟩⟩, HM4.out.put 4 _ (by omega) rfl⟩
                      · go_meet
                        exact ⟨qw, HM4.out⟩
                    case rest =>
                      obtain ⟨qw, hM⟩ := hcut
                      go_wp2_with fail
                      go_meet
                      exact ⟨qw, hM.made⟩
            case rest =>
              clear HMA
              obtain ⟨qw, hM⟩ := hcut
              obtain ⟨z0, z1, z2, z3, z4, z5, z6⟩ := want_cells hM.box
              have HV := hid (HVA.out.fr hM.fr (fun j e1 e2 => HNW.out (e2 ▸ e1)))
              have HU := hid (HUA.out.mv hM.fr.size)
              have HB := hid (below_of_fr HBA.out hM.fr (fun j e => e ▸ HWB.out) HBA.out.size)
              clear hM HVA HUA HBA
              go_wp2_with (at_builtin; refine wpList_append_sl (by rfl) (.tmp 111) (.tmp 113) 82 (by rfl) 36 i0 _ 7 64 Try.underlying82 hi0 hz0 hz1 hz2 rfl (by decide) o _ (.slice (some ⟨wc.heap.size, 0, none⟩) 1 1) k 1 (ws.flatMap Wt.cells) qw.cells (by rfl) (by rfl) (HV.out.below ((Below.refl _ _).alloc (Nat.le_refl _) _)) ⟨rfl, .inr ⟨_, 1, rfl, World.news_of_block (cs := qw.cells.toArray) (fr := (0, 0)) (heap_alloc_new wc _)⟩⟩ (wt_one _) (by unfold maxLen; omega) (by omega) ?_)
              intro v6 w6 hown6 hgrow
              have hbs := HB.out.size
              have HB6 := hid (below_of_fr (HB.out.alloc hbs _) hgrow HA.out (by simp; omega))
              have HA6 := hid (hgrow.mv.above HA.out (by simp; omega))
              have HU6 := hid (hgrow.under (HU.out.mv (by simp)))
              have HV6 := hid (show OwnSl w6 _ 7 v6 (k + 1) ((ws ++ [qw]).flatMap Wt.cells) by rw [List.flatMap_append]; simpa using hown6)
              have HK6 := hid (show (ws ++ [qw]).length = k + 1 by rw [List.length_append, HK.out]; rfl)
              clear hown6 hgrow HV HB HA HU z0 z1 z2 z3 z4 z5 z6
              go_wp2
              go_roundw
              case rel => exact ⟨k + 1, ws ++ [qw], _, by omega, by go_num, HV6, HK6, HA6, HU6, HB6⟩
              case measure => (simp [intOf]; try omega)
        · obtain rfl : k = l3.length := by omega
          have HG8 := hid (HG.out.then HB.out)
          have z0 := HG8.out.box.cells.1
          have hwa : WantsAt wr (.slice B0 l3.length cap0) ws := by
            show ArgSl wr 7 _ ws.length _
            rw [HK.out]
            exact OwnSl.argw HV.out (by unfold maxLen; omega)
          go_wp2_with fail
          refine (classify_all HG8.out.both.drv HG8.out.ok hwa (by rw [HK.out]; omega)).mono ?_
          rintro e w9 ⟨v9, rfl, hv9, hb9⟩
          have HG9 := hid (HG8.out.then hb9)
          have HI9 := hid (show OwnSl w9 (New wr) 1 v9 l3.length (ints (ws.map (stateOf S))) by have := hv9; unfold Ints at this; rwa [List.length_map, HK.out] at this)
          have HV9 := hid (HV.out.below hb9)
          clear hv9 hb9 HG HG8 HV HB HA HU z0 hwa
          generalize New wr = o9 at *
          obtain ⟨B9, cap9, rfl, _⟩ := OwnSl.form HI9.out
          generalize l3.length = n at *
          have hne := int_self (n : Int)
          go_wp2_with fail
          go_loopw [20] (fun i wr => ∃ (k : Nat), k ≤ n ∧ i = .int .i64 k ∧ Hid (Below w9.heap.size w9 wr)) (fun i _ => (n - intOf i).toNat)
          case atStart => exact ⟨0, Nat.zero_le _, rfl, Below.refl _ _⟩
          case round =>
            obtain ⟨k, hk, rfl, HB⟩ := hrel
            by_cases hlt : k < n
            · have HGR := hid (HG9.out.then HB.out)
              obtain ⟨g, off, cg, e1, _, hgl, _, _, hgc, _⟩ := HV9.out.some_ (by omega)
              injection e1 with e1 _ e3
              subst e1
              subst e3
              obtain ⟨gi, offi, cgi, e1, _, hil, _, _, hic, _⟩ := HI9.out.some_ (by omega)
              injection e1 with e1 _ e3
              subst e1
              subst e3
              have hkw : k < ws.length := by rw [HK.out]; exact hlt
              have hc2 : ∀ j u, (ws.flatMap Wt.cells)[j]? = some u → wr.cell? ⟨g, off + j, none⟩ = some u := fun j u e => (HB.out.cell (p := ⟨g, off + j, none⟩) hgl).trans (hgc j u e)
              have z0 : wr.cell? ⟨g, off + k * 7, none⟩ = some (.int .i64 ws[k].slot) := WantsAt.cell hc2 k hkw 0 _ (by omega) rfl
              have z1 := WantsAt.cell hc2 k hkw 1 _ (by omega) rfl
              have z2 := WantsAt.cell hc2 k hkw 2 _ (by omega) rfl
              have z3 := WantsAt.cell hc2 k hkw 3 _ (by omega) rfl
              have z4 := WantsAt.cell hc2 k hkw 4 _ (by omega) rfl
              have z5 := WantsAt.cell hc2 k hkw 5 _ (by omega) rfl
              have z6 := WantsAt.cell hc2 k hkw 6 _ (by omega) rfl
              have zc : wr.cell? ⟨gi, offi + k, none⟩ = some (.int .i64 (stateOf S ws[k])) := (HB.out.cell (p := ⟨gi, offi + k, none⟩) hil).trans (hic k _ (by simp [ints, hkw]))
              clear hc2 hic hgc
              generalize ws[k] = x at *
              have q0 := HGR.out.box.cells.1
              have q1 := HGR.out.box.cells.2
              have hk0 : (0 : Int) ≤ (k : Int) := by omega
              have hk1 : (k : Int) < (n : Int) := by omega
              go_upto_region 26 with fail
              have Z0 := cell_regrown z0
              have Z1 := cell_regrown z1
              have Z2 := cell_regrown z2
              have Z3 := cell_regrown z3
              have Z4 := cell_regrown z4
              have Z5 := cell_regrown z5
              have Z6 := cell_regrown z6
              have Q1 := cell_regrown q1
              refine wp_region_quiet_below (by kernel_rfl) (by kernel_rfl) ?_
              repeat (go_big_quiet_step ((go_at_call 36; exact Calls.regrown_of (state_ref (HGR.out.both.ref.below (below_regrown _ _ _)) HGR.out.ok x))))
              refine wpQuiet_nil ?_
              rintro _ ⟨p, rfl⟩
              have hbp := below_regrown wr p.d p.os
              have HGQ := hid (HGR.out.then hbp)
              have HBQ := hid (HB.out.trans (hbp.mono HB.out.size))
              replace z0 := Z0 p.d p.os
              replace z1 := Z1 p.d p.os
              replace z2 := Z2 p.d p.os
              replace z3 := Z3 p.d p.os
              replace z4 := Z4 p.d p.os
              replace z5 := Z5 p.d p.os
              replace z6 := Z6 p.d p.os
              replace zc := cell_regrown zc p.d p.os
              replace q0 := cell_regrown q0 p.d p.os
              clear Z0 Z1 Z2 Z3 Z4 Z5 Z6 Q1 q1 hbp HGR HB
              generalize grow (redrawn wr p.d) p.os = wq at *
              obtain ⟨st, hst⟩ : ∃ st, stateOf S x = st := ⟨_, rfl⟩
              obtain ⟨gd, hgd⟩ : ∃ gd, isGood st = gd := ⟨_, rfl⟩
              have HST := hid hst
              have HGD := hid (show ∀ d os, Calls Try.prog 19 #[.pointer (some ⟨a, 0, none⟩), x.val] (grow (redrawn wq d) os) fun e w' => e = .returned (.bool gd) ∧ Below (grow (redrawn wq d) os).heap.size (grow (redrawn wq d) os) w' from fun d os => by
                have := good_any (HGQ.out.both.drv.below (below_regrown wq d os)) HGQ.out.ok x
                rwa [hst, hgd] at this)
              rw [hst] at zc ⊢
              have hneq : (st != st) = false := by simp
              have Z0 := cell_regrown z0
              have Z1 := cell_regrown z1
              have Z2 := cell_regrown z2
              have Z3 := cell_regrown z3
              have Z4 := cell_regrown z4
              have Z5 := cell_regrown z5
              have Z6 := cell_regrown z6
              have ZC := cell_regrown zc
              have Q0 := cell_regrown q0
              go_upto_region 27 with fail
              have hcase : ((st == 1) = true ∧ gd = true) ∨ ((st == 1) = false ∧ (st == 7) = true ∧ gd = true) ∨ ((st == 1) = false ∧ (st == 7) = false ∧ gd = false) := by
                rw [← hgd]
                unfold isGood
                cases (st == 1) <;> cases (st == 7) <;> simp
              clear hst hgd z0 z1 z2 z3 z4 z5 z6 zc q0
              rcases hcase with ⟨c1, rfl⟩ | ⟨c1, c7, rfl⟩ | ⟨c1, c7, rfl⟩
              all_goals
                refine wp_region_quiet_below (by kernel_rfl) (by kernel_rfl) ?_
                repeat (go_big_quiet_step ((go_at_call 19; exact Calls.regrown_of (HGD.out _ _))))
                refine wpQuiet_nil ?_
                rintro _ ⟨p2, rfl⟩
                have hbp := below_regrown wq p2.d p2.os
                have HBX := hid (HBQ.out.trans (hbp.mono HBQ.out.size))
                clear Z0 Z1 Z2 Z3 Z4 Z5 Z6 ZC Q0 hbp HBQ HGQ HGD
                generalize grow (redrawn wq p2.d) p2.os = wz at *
                go_wp2
                go_roundw
                case rel => exact ⟨k + 1, by omega, by go_num, HBX⟩
                case measure => (simp [intOf]; try omega)
            · obtain rfl : k = n := by omega
              have HGX := hid (HG9.out.then HB.out)
              clear hk hlt
              go_wp2_with fail
              refine (awake27 _).mono ?_
              rintro e w6 ⟨rfl, hb6⟩
              have HG6 := hid (HGX.out.then hb6)
              clear hb6 HGX
              have z0 := HG6.out.box.cells.1
              have z1 := HG6.out.box.cells.2
              go_wp2_with fail
              refine (alike_any HG6.out.both HG6.out.ok).mono ?_
              rintro e w7 ⟨rfl, hb7⟩
              have HW := hid (HG6.out.then hb7).below
              clear hb7 HG6 z0 z1
              go_wp2
              go_ret
              exact ⟨rfl, HW.out⟩
end Go.Proofs.Ytegekmdechcikaa
