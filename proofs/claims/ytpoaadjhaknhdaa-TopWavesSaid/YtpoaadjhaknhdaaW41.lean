/- The maker: Size, has, Layout. -/
import Derived.Test.YtpoaadjhaknhdaaW30
import Derived.Test.YtpoaadjhaknhdaaW34
namespace Go.Proofs.Ytpoaadjhaknhdaa
open Go Go.RowKit Go.Sort Go.Deep

section
variable {w : World} {ex : Int} {vl vm vd vr vp vv vn : Value} {nl nd nr np nv : Nat} {KM : List (Nat × Nat)} {rows : List (List Int)}
set_option maxRecDepth 100000 in
set_option maxHeartbeats 3200000 in
theorem size_any (h : FleetK w vl vm vd vr vp vv nl nd nr np nv KM) (q : Nat) (hq : q < KM.length) : Calls Try.prog 15 #[.agg (fleetArr ex vl vm vd vr vp vv), .int .i64 (q : Int)] w fun e w' => e = .returned (.int .i64 ((KM[q].1 : Int) + (KM[q].2 : Int))) ∧ Below w.heap.size w w' := by
  have hb1 := (Below.refl w.heap.size w).alloc (Nat.le_refl _) (.cells (fleetArr ex vl vm vd vr vp vv) 33)
  have hg1 := heap_alloc_new w (.cells (fleetArr ex vl vm vd vr vp vv) 33)
  have hv := h.vols.below hb1
  have hf := h.fleet.below hb1
  obtain ⟨hsm, hln, gp, op, cp, np', gv, ov, cv, rfl, rfl, hgp, hgv, hnp, hvol⟩ := hv
  obtain ⟨pp, hpp, l1, l2, l3⟩ := hvol q hq
  obtain ⟨hk1, hk2, hk3⟩ := hsm KM[q] (List.getElem_mem hq)
  obtain ⟨A', c', e, _, hcm, hrows⟩ := hf.pols
  injection e with e1 e2 e3
  subst e2 e3
  obtain ⟨gp', op', e4, hgp', hrow⟩ := hrows (by omega)
  rw [← e1] at e4
  injection e4 with e4
  injection e4 with e5 e6 _
  subst e5 e6
  obtain ⟨nm, K, M, Q, s0, s1, s2, s3, s4, pm, pr, u1, v1, u2, v2, hcs, hpol⟩ := hrow pp hpp
  obtain ⟨npm, Apm, cpm, rfl, _⟩ := hpol.models
  obtain ⟨npr, Apr, cpr, rfl, _⟩ := hpol.repair
  obtain ⟨_, _, hx1, hx2, _⟩ := hpol.target
  obtain ⟨_, _, hx3, hx4, _⟩ := hpol.horizon
  obtain ⟨U1, k1, d1, rfl⟩ := hx1.sl
  obtain ⟨V1, k2, d2, rfl⟩ := hx2.sl
  obtain ⟨U2, k3, d3, rfl⟩ := hx3.sl
  obtain ⟨V2, k4, d4, rfl⟩ := hx4.sl
  have hK : K = (KM[q].1 : Int) := by
    have := (hcs 1 _ rfl).symm.trans l2
    simpa [polAgg] using this
  have hM : M = (KM[q].2 : Int) := by
    have := (hcs 2 _ rfl).symm.trans l3
    simpa [polAgg] using this
  generalize KM[q].1 = kq at *
  generalize KM[q].2 = mq at *
  subst hK hM
  have HB := hid hb1
  have hz1 : w.heap.size < (w.alloc (.cells (fleetArr ex vl vm vd vr (.slice (some ⟨gp, op, none⟩) np' cp) (.slice (some ⟨gv, ov, none⟩) KM.length cv)) 33)).heap.size := by simp
  have g5 := cell_block hg1 5
  have g6 := cell_block hg1 6
  simp only [fleetArr, List.getElem?_toArray, List.getElem?_cons_zero, List.getElem?_cons_succ] at g5 g6
  have y0 := hcs 0 (.string nm) rfl
  rw [Nat.add_zero] at y0
  have y1 := hcs 1 (.int .i64 (kq : Int)) rfl
  have y2 := hcs 2 (.int .i64 (mq : Int)) rfl
  have y3 := hcs 3 (.int .i64 Q) rfl
  have y4 := hcs 4 (.int .i64 s0) rfl
  have y5 := hcs 5 (.int .i64 s1) rfl
  have y6 := hcs 6 (.int .i64 s2) rfl
  have y7 := hcs 7 (.int .i64 s3) rfl
  have y8 := hcs 8 (.int .i64 s4) rfl
  have y9 := hcs 9 (.slice Apm npm cpm) rfl
  have y10 := hcs 10 (.slice Apr npr cpr) rfl
  have y11 := hcs 11 (.bool false) rfl
  have y12 := hcs 12 (.slice U1 k1 d1) rfl
  have y13 := hcs 13 (.slice V1 k2 d2) rfl
  have y14 := hcs 14 (.bool false) rfl
  have y15 := hcs 15 (.slice U2 k3 d3) rfl
  have y16 := hcs 16 (.slice V2 k4 d4) rfl
  have i1 : (q : Int) < (KM.length : Int) := by omega
  have i2 : (pp : Int) < (np' : Int) := by omega
  have i3 : (0 : Int) ≤ (pp : Int) := by omega
  have i4 := wrap_small ((kq : Int) + (mq : Int)) (by omega) (by omega)
  unfold maxLen at hnp
  clear hcs hpol hx1 hx2 hx3 hx4 hrow hrows hvol hsm l2 l3 h hf e1 hb1 hg1
  go_enter Try.func15, Try.ntmps15
  go_upto_region 1 with fail
  generalize w.alloc (.cells (fleetArr ex vl vm vd vr (.slice (some ⟨gp, op, none⟩) np' cp) (.slice (some ⟨gv, ov, none⟩) KM.length cv)) 33) = w1 at *
  have HS := hid (show ∀ w', Below w1.heap.size w1 w' → w'.cell? ⟨w.heap.size, 5, none⟩ = some (.slice (some ⟨gp, op, none⟩) np' cp) ∧ w'.cell? ⟨w.heap.size, 6, none⟩ = some (.slice (some ⟨gv, ov, none⟩) KM.length cv) ∧ w'.cell? ⟨gv, ov + q * 2 + 1, none⟩ = some (.int .i64 (pp : Int)) ∧ w'.cell? ⟨gp, op + pp * 17, none⟩ = some (.string nm) ∧ w'.cell? ⟨gp, op + pp * 17 + 1, none⟩ = some (.int .i64 (kq : Int)) ∧ w'.cell? ⟨gp, op + pp * 17 + 2, none⟩ = some (.int .i64 (mq : Int)) ∧ w'.cell? ⟨gp, op + pp * 17 + 3, none⟩ = some (.int .i64 Q) ∧ w'.cell? ⟨gp, op + pp * 17 + 4, none⟩ = some (.int .i64 s0) ∧ w'.cell? ⟨gp, op + pp * 17 + 5, none⟩ = some (.int .i64 s1) ∧ w'.cell? ⟨gp, op + pp * 17 + 6, none⟩ = some (.int .i64 s2) ∧ w'.cell? ⟨gp, op + pp * 17 + 7, none⟩ = some (.int .i64 s3) ∧ w'.cell? ⟨gp, op + pp * 17 + 8, none⟩ = some (.int .i64 s4) ∧ w'.cell? ⟨gp, op + pp * 17 + 9, none⟩ = some (.slice Apm npm cpm) ∧ w'.cell? ⟨gp, op + pp * 17 + 10, none⟩ = some (.slice Apr npr cpr) ∧ w'.cell? ⟨gp, op + pp * 17 + 11, none⟩ = some (.bool false) ∧ w'.cell? ⟨gp, op + pp * 17 + 12, none⟩ = some (.slice U1 k1 d1) ∧ w'.cell? ⟨gp, op + pp * 17 + 13, none⟩ = some (.slice V1 k2 d2) ∧ w'.cell? ⟨gp, op + pp * 17 + 14, none⟩ = some (.bool false) ∧ w'.cell? ⟨gp, op + pp * 17 + 15, none⟩ = some (.slice U2 k3 d3) ∧ w'.cell? ⟨gp, op + pp * 17 + 16, none⟩ = some (.slice V2 k4 d4) from fun w' hW => ⟨(hW.cell (p := ⟨w.heap.size, 5, none⟩) hz1).trans g5, (hW.cell (p := ⟨w.heap.size, 6, none⟩) hz1).trans g6, (hW.cell (p := ⟨gv, ov + q * 2 + 1, none⟩) hgv).trans l1, (hW.cell (p := ⟨gp, op + pp * 17, none⟩) hgp).trans y0, (hW.cell (p := ⟨gp, op + pp * 17 + 1, none⟩) hgp).trans y1, (hW.cell (p := ⟨gp, op + pp * 17 + 2, none⟩) hgp).trans y2, (hW.cell (p := ⟨gp, op + pp * 17 + 3, none⟩) hgp).trans y3, (hW.cell (p := ⟨gp, op + pp * 17 + 4, none⟩) hgp).trans y4, (hW.cell (p := ⟨gp, op + pp * 17 + 5, none⟩) hgp).trans y5, (hW.cell (p := ⟨gp, op + pp * 17 + 6, none⟩) hgp).trans y6, (hW.cell (p := ⟨gp, op + pp * 17 + 7, none⟩) hgp).trans y7, (hW.cell (p := ⟨gp, op + pp * 17 + 8, none⟩) hgp).trans y8, (hW.cell (p := ⟨gp, op + pp * 17 + 9, none⟩) hgp).trans y9, (hW.cell (p := ⟨gp, op + pp * 17 + 10, none⟩) hgp).trans y10, (hW.cell (p := ⟨gp, op + pp * 17 + 11, none⟩) hgp).trans y11, (hW.cell (p := ⟨gp, op + pp * 17 + 12, none⟩) hgp).trans y12, (hW.cell (p := ⟨gp, op + pp * 17 + 13, none⟩) hgp).trans y13, (hW.cell (p := ⟨gp, op + pp * 17 + 14, none⟩) hgp).trans y14, (hW.cell (p := ⟨gp, op + pp * 17 + 15, none⟩) hgp).trans y15, (hW.cell (p := ⟨gp, op + pp * 17 + 16, none⟩) hgp).trans y16⟩)
  clear g5 g6 l1 y0 y1 y2 y3 y4 y5 y6 y7 y8 y9 y10 y11 y12 y13 y14 y15 y16
  go_region_held3 (fun w' => w'.cell? ⟨w.heap.size, 5, none⟩ = some (.slice (some ⟨gp, op, none⟩) np' cp) ∧ w'.cell? ⟨w.heap.size, 6, none⟩ = some (.slice (some ⟨gv, ov, none⟩) KM.length cv) ∧ w'.cell? ⟨gv, ov + q * 2 + 1, none⟩ = some (.int .i64 (pp : Int)) ∧ w'.cell? ⟨gp, op + pp * 17, none⟩ = some (.string nm) ∧ w'.cell? ⟨gp, op + pp * 17 + 1, none⟩ = some (.int .i64 (kq : Int)) ∧ w'.cell? ⟨gp, op + pp * 17 + 2, none⟩ = some (.int .i64 (mq : Int)) ∧ w'.cell? ⟨gp, op + pp * 17 + 3, none⟩ = some (.int .i64 Q) ∧ w'.cell? ⟨gp, op + pp * 17 + 4, none⟩ = some (.int .i64 s0) ∧ w'.cell? ⟨gp, op + pp * 17 + 5, none⟩ = some (.int .i64 s1) ∧ w'.cell? ⟨gp, op + pp * 17 + 6, none⟩ = some (.int .i64 s2) ∧ w'.cell? ⟨gp, op + pp * 17 + 7, none⟩ = some (.int .i64 s3) ∧ w'.cell? ⟨gp, op + pp * 17 + 8, none⟩ = some (.int .i64 s4) ∧ w'.cell? ⟨gp, op + pp * 17 + 9, none⟩ = some (.slice Apm npm cpm) ∧ w'.cell? ⟨gp, op + pp * 17 + 10, none⟩ = some (.slice Apr npr cpr) ∧ w'.cell? ⟨gp, op + pp * 17 + 11, none⟩ = some (.bool false) ∧ w'.cell? ⟨gp, op + pp * 17 + 12, none⟩ = some (.slice U1 k1 d1) ∧ w'.cell? ⟨gp, op + pp * 17 + 13, none⟩ = some (.slice V1 k2 d2) ∧ w'.cell? ⟨gp, op + pp * 17 + 14, none⟩ = some (.bool false) ∧ w'.cell? ⟨gp, op + pp * 17 + 15, none⟩ = some (.slice U2 k3 d3) ∧ w'.cell? ⟨gp, op + pp * 17 + 16, none⟩ = some (.slice V2 k4 d4))
    (first | (with_reducible exact HS.out _ (Below.refl _ _).drew) | (with_reducible exact HS.out _ ((Below.refl _ _).drew.alloc (Nat.le_refl _) _)) | (with_reducible exact HS.out _ (((Below.refl _ _).alloc (Nat.le_refl _) _).drew)))
    (fail)
  all_goals
    clear HS
    go_wp2_with fail
    go_ret
    first | exact ⟨rfl, (HB.out.alloc (Nat.le_of_lt hz1) _).drew⟩ | exact ⟨rfl, HB.out.drew.alloc (Nat.le_of_lt hz1) _⟩
theorem size_len (h : FleetK w vl vm vd vr vp vv nl nd nr np nv KM) (q : Nat) (hq : q < KM.length) (n : Nat) (hn : n = KM[q].1 + KM[q].2) : Calls Try.prog 15 #[.agg (fleetArr ex vl vm vd vr vp vv), .int .i64 (q : Int)] w fun e w' => e = .returned (.int .i64 (n : Int)) ∧ Below w.heap.size w w' := by
  subst hn
  rw [Int.natCast_add]
  exact size_any h q hq
end
set_option maxRecDepth 100000 in
theorem has_any {w : World} {v : Value} {l : List Int} (h : ListAt w v l) (x : Int) : Calls Try.prog 16 #[v, .int .i64 x] w fun e w' => e = .returned (.bool (decide (x ∈ l))) ∧ w = w' := by
  obtain ⟨A, c, rfl, hc, hm, hs⟩ := h
  have HS := hid hs
  clear hs
  unfold maxLen at hm
  obtain ⟨n, hn⟩ : ∃ n, l.length = n := ⟨_, rfl⟩
  have HN := hid hn
  rw [hn] at hc ⊢
  clear hn
  obtain ⟨b, hb⟩ : ∃ b, decide (x ∈ l) = b := ⟨_, rfl⟩
  rw [hb]
  have HB := hid hb
  clear hb
  go_enter Try.func16, Try.ntmps16
  go_wp2_with fail
  go_loop [5] (fun i => ∃ k : Nat, k ≤ n ∧ i = .int .i64 k ∧ Hid (x ∉ l.take k)) (fun i => (n - intOf i).toNat)
  case atStart => exact ⟨0, Nat.zero_le _, rfl, hid (by simp)⟩
  case round =>
    obtain ⟨k, hk, rfl, HT⟩ := hrel
    by_cases hlt : k < n
    · have hkl : k < l.length := by rw [HN.out]; exact hlt
      obtain ⟨g, off, rfl, hg, hc2⟩ := HS.out (by omega)
      have z0 := hc2 k hkl
      have HK := hid (show l.take (k + 1) = l.take k ++ [l[k]] from List.take_succ_eq_append_getElem hkl)
      have HL := hid (List.getElem_mem hkl)
      generalize l[k] = y at *
      clear hc2 hkl
      by_cases hxy : y = x
      · subst hxy
        have hbt : b = true := by rw [← HB.out]; simp [HL.out]
        subst hbt
        go_wp2
        go_ret
        exact ⟨rfl, rfl⟩
      · have hb : (y == x) = false := by rw [beq_eq_false_iff_ne]; exact hxy
        go_wp2
        go_round
        case rel => exact ⟨k + 1, by omega, by go_num, hid (by rw [HK.out, List.mem_append]; rintro (e | e); exact HT.out e; simp at e; exact hxy e.symm)⟩
        case measure => (simp [intOf]; try omega)
    · obtain rfl : n = k := by omega
      have hbt : b = false := by
        rw [← HB.out]
        have := HT.out
        rw [← HN.out, List.take_length] at this
        simp [this]
      subst hbt
      go_wp2
      go_ret
      exact ⟨rfl, rfl⟩

/-- The layout while it is made: its rows stand in blocks that nobody writes any more. -/
structure Lay (gt : Nat) (w1 w : World) (I : Nat) (v : Value) (rows : List (List Int)) (o : Own) (us : List Value) : Prop where
  tape : TapeAt w gt I
  fr : Fr (Just gt) w1 w
  out : OwnSl w o 1 v rows.length us
  each : ∀ j (h : j < rows.length), ∃ u, us[j]? = some u ∧ Sup (Or (Just gt) o) w (fun w' => ListAt w' u rows[j])
  ab : Above w1.heap.size o
  un : Under w o
  old : gt < w1.heap.size
section
variable {gt I I' : Nat} {w1 w w' : World} {v : Value} {rows : List (List Int)} {o : Own} {us : List Value}
theorem Lay.apart (h : Lay gt w1 w I v rows o us) : Apart o (Just gt) := fun k a b => by
  have := h.ab k a
  have : k = gt := b
  have := h.old
  omega
theorem Lay.step (h : Lay gt w1 w I v rows o us) (hf : Fr (Just gt) w w') (ht : TapeAt w' gt I') : Lay gt w1 w' I' v rows o us :=
  ⟨ht, h.fr.trans (fun _ e => .inl e) hf, h.out.fr hf h.apart, fun j hj => by
    obtain ⟨u, e, hs⟩ := h.each j hj
    exact ⟨u, e, hs.fr (hf.mono fun _ e => .inl e)⟩, h.ab, h.un.mv hf.size, h.old⟩
theorem Lay.rowsAt (h : Lay gt w1 w I v rows o us) : RowsAt w v rows := by
  rcases Nat.eq_zero_or_pos rows.length with h0 | h0
  · rcases h.out.2 with ⟨rfl, _⟩ | ⟨g, off, c, rfl, _, _, hnc, hc, _⟩
    · exact ⟨none, 0, by rw [h0], by omega, Nat.zero_le _, fun h => by omega⟩
    · exact ⟨_, c, rfl, hnc, hc, fun h => by omega⟩
  · obtain ⟨g, off, c, rfl, _, hg, hnc, hc, hx, _⟩ := h.out.some_ h0
    exact ⟨_, c, rfl, hnc, hc, fun _ => ⟨g, off, rfl, hg, fun j hj => by
      obtain ⟨u, e, hs⟩ := h.each j hj
      exact ⟨u, hx j u e, hs.now⟩⟩⟩
/-- A row is added. -/
theorem Lay.add {orr : Own} {wr Wc w6 : World} {u v6 : Value} {row : List Int} (h : Lay gt w1 w I v rows o us) (hf : Fr (Just gt) w wr) (ht : TapeAt wr gt I') (hr : OwnSl wr orr 1 u row.length (intVals row)) (hab : Above w.heap.size orr) (hc : Below wr.heap.size wr Wc)
    (h6 : OwnSl w6 (Grow o Wc w6) 1 v6 (rows.length + 1) (us ++ [u])) (hg : Fr o Wc w6) : Lay gt w1 w6 I' v6 (rows ++ [row]) (Grow o Wc w6) (us ++ [u]) := by
  have hs := h.step hf ht
  have hmv : Mv (Or (Just gt) o) Wc (Or (Just gt) (Grow o Wc w6)) w6 := ⟨hg.mono (fun _ e => .inr e), fun k e => by
    rcases e with e | e
    · exact .inl (.inl e)
    · rcases e with e | e
      · exact .inl (.inr e)
      · exact .inr e.1⟩
  have hW : Fr (Just gt) w1 Wc := hs.fr.trans (fun _ e => .inl e) (Fr.ofBelow hc)
  have hsz := h.fr.size
  have hfs := hf.size
  have hcs := hc.size
  have hul : us.length = rows.length := by have := h.out.1; omega
  refine ⟨(ht.below hc).fr hg (fun k e => ?_), hW.trans (fun k e => .inr (Nat.le_trans (Nat.le_refl _) (h.ab k e))) hg, by rw [List.length_append]; exact h6, fun j hj => ?_, fun k e => ?_, hg.under (hs.un.mv hcs), h.old⟩
  · have := h.ab k e
    have := h.old
    omega
  · by_cases e : j < rows.length
    · obtain ⟨x, hx, hsu⟩ := hs.each j e
      refine ⟨x, by rw [List.getElem?_append_left (by omega)]; exact hx, ?_⟩
      rw [List.getElem_append_left e]
      exact (hsu.below hc).mv hmv
    · have e2 : j = rows.length := by rw [List.length_append] at hj; simp at hj; omega
      subst e2
      refine ⟨u, by rw [List.getElem?_append_right (by omega), hul, Nat.sub_self]; rfl, ?_⟩
      rw [List.getElem_append_right (Nat.le_refl _)]
      simp only [Nat.sub_self, List.getElem_cons_zero]
      have hsu : Sup (Or (Just gt) o) wr fun w' => ListAt w' u row := fun w' hf' => OwnSl.list (hr.fr hf' (fun k a b => by
        have := hab k a
        rcases b with b | b
        · have : k = gt := b
          have := h.old
          omega
        · have := h.un k b
          omega))
      exact (hsu.below hc).mv hmv
  · rcases e with e | e
    · exact h.ab k e
    · omega
end

/-- The row in work: its block is newer than ws. -/
structure InRow (gt nr : Nat) (ws w : World) (I : Nat) (v : Value) (row : List Int) (o : Own) : Prop where
  tape : TapeAt w gt I
  fr : Fr (Just gt) ws w
  own : OwnSl w o 1 v row.length (intVals row)
  ab : Above ws.heap.size o
  un : Under w o
  old : gt < ws.heap.size
  ent : ∀ d ∈ row, -1 ≤ d ∧ d < (nr : Int)
section
variable {gt nr I I' : Nat} {ws w w' : World} {v : Value} {row : List Int} {o : Own}
theorem InRow.apart (h : InRow gt nr ws w I v row o) : Apart o (Just gt) := fun k a b => by
  have := h.ab k a
  have : k = gt := b
  have := h.old
  omega
theorem InRow.step (h : InRow gt nr ws w I v row o) (hf : Fr (Just gt) w w') (ht : TapeAt w' gt I') : InRow gt nr ws w' I' v row o :=
  ⟨ht, h.fr.trans (fun _ e => .inl e) hf, h.own.fr hf h.apart, h.ab, h.un.mv hf.size, h.old, h.ent⟩
theorem InRow.below (h : InRow gt nr ws w I v row o) (hb : Below w.heap.size w w') : InRow gt nr ws w' I v row o := h.step (.ofBelow hb) (h.tape.below hb)
theorem InRow.list (h : InRow gt nr ws w I v row o) : ListAt w v row := OwnSl.list h.own
theorem InRow.add {Wc w6 : World} {v6 : Value} {d : Int} (h : InRow gt nr ws w I v row o) (hc : Below w.heap.size w Wc) (hd : -1 ≤ d ∧ d < (nr : Int)) (h6 : OwnSl w6 (Grow o Wc w6) 1 v6 (row.length + 1) (intVals row ++ [.int .i64 d])) (hg : Fr o Wc w6) : InRow gt nr ws w6 I v6 (row ++ [d]) (Grow o Wc w6) := by
  have hs := h.below hc
  have hsz := hs.fr.size
  refine ⟨hs.tape.fr hg (fun k e => ?_), hs.fr.trans (fun k e => .inr (h.ab k e)) hg, by simpa [intVals] using h6, fun k e => ?_, hg.under hs.un, h.old, fun x hx => ?_⟩
  · have := h.ab k e
    have := h.old
    omega
  · rcases e with e | e
    · exact h.ab k e
    · omega
  · rcases List.mem_append.1 hx with e | e
    · exact h.ent x e
    · simp at e
      rw [e]; exact hd
theorem InRow.start (ht : TapeAt w gt I) (t : TypeId) : InRow gt nr w (w.alloc (.cells #[] t)) I (.slice (some ⟨w.heap.size, 0, none⟩) 0 0) [] (Just w.heap.size) := by
  have hb := (Below.refl w.heap.size w).alloc (Nat.le_refl _) (.cells #[] t)
  refine ⟨ht.below hb, .ofBelow hb, ⟨rfl, .inr ⟨w.heap.size, 0, 0, rfl, rfl, by simp, Nat.le_refl _, Nat.zero_le _, (fun j u hu => by cases hu), (fun j hj => by omega)⟩⟩, fun k e => by rw [show k = w.heap.size from e]; exact Nat.le_refl _, fun k e => by rw [show k = w.heap.size from e]; simp, ht.lt, fun d hd => by cases hd⟩
end
theorem held_fr {w1 W : World} {b gt : Nat} {ex : Int} {vl vm vd vr vp vv : Value} {t : TypeId} {f : Nat × Nat} (h : w1.heap[b]? = some (.cells (fleetArr ex vl vm vd vr vp vv) t f)) (hlt : gt < b) (hW : Fr (Just gt) w1 W) : W.cell? ⟨b, 0, none⟩ = some (.int .i64 ex) ∧ W.cell? ⟨b, 1, none⟩ = some vl ∧ W.cell? ⟨b, 2, none⟩ = some vm ∧ W.cell? ⟨b, 3, none⟩ = some vd ∧ W.cell? ⟨b, 4, none⟩ = some vr ∧ W.cell? ⟨b, 5, none⟩ = some vp ∧ W.cell? ⟨b, 6, none⟩ = some vv := by
  have hg := (hW.block _ (Array.getElem?_eq_some_iff.1 h).1 (fun e => by have : b = gt := e; omega)).trans h
  exact ⟨cell_block hg 0, cell_block hg 1, cell_block hg 2, cell_block hg 3, cell_block hg 4, cell_block hg 5, cell_block hg 6⟩
end Go.Proofs.Ytpoaadjhaknhdaa
