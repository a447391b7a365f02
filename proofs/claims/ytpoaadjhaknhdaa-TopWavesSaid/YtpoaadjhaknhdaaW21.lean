/- Validate: it returns, and changes nothing (printed by wip/tools/mkw21.py). -/
import Derived.Test.YtpoaadjhaknhdaaW20
namespace Go.Proofs.Ytpoaadjhaknhdaa
open Go Go.RowKit Go.Sort Go.Deep

def RowsIn (w : World) (v : Value) (n size : Nat) (P : World → Nat → Nat → Prop) : Prop := ∃ A c, v = .slice A n c ∧ n ≤ c ∧ c ≤ maxLen ∧ (0 < n → ∃ g off, A = some ⟨g, off, none⟩ ∧ g < w.heap.size ∧ ∀ j, j < n → P w g (off + j * size))
theorem RowsIn.below {w w' : World} {v : Value} {n size : Nat} {P : World → Nat → Nat → Prop} (h : RowsIn w v n size P) (hb : Below w.heap.size w w') (mono : ∀ g o, g < w.heap.size → P w g o → P w' g o) : RowsIn w' v n size P := by
  obtain ⟨A, c, e, h1, h2, h3⟩ := h
  refine ⟨A, c, e, h1, h2, fun h0 => ?_⟩
  obtain ⟨g, off, e2, hg, h4⟩ := h3 h0
  exact ⟨g, off, e2, Nat.lt_of_lt_of_le hg hb.size, fun j hj => mono _ _ hg (h4 j hj)⟩
/-- The cells of a row. -/
def CellsIn (w : World) (g o : Nat) (cs : List Value) : Prop := ∀ j u, cs[j]? = some u → w.cell? ⟨g, o + j, none⟩ = some u
theorem CellsIn.below {w w' : World} {g o : Nat} {cs : List Value} (h : CellsIn w g o cs) (hb : Below w.heap.size w w') (hg : g < w.heap.size) : CellsIn w' g o cs := fun j u hu => (hb.cell (p := ⟨g, o + j, none⟩) hg).trans (h j u hu)
def LawCell (w : World) (g o : Nat) : Prop := ∃ nm vs vr ve, CellsIn w g o [.string nm, vs, vr, ve] ∧ LawAt w vs vr ve
def ModCell (w : World) (g o : Nat) : Prop := ∃ nm x y z, CellsIn w g o [.string nm, .int .i64 x, .int .i64 y, .int .i64 z]
def DrvCell (w : World) (g o : Nat) : Prop := ∃ nm x y, CellsIn w g o [.string nm, .int .i64 x, .int .i64 y]
def VolCell (w : World) (g o : Nat) : Prop := ∃ nm x, CellsIn w g o [.string nm, .int .i64 x]
def PolCell (w : World) (g o : Nat) : Prop := ∃ nm K M Q s0 s1 s2 s3 s4 vm vr u1 v1 u2 v2, CellsIn w g o (polAgg nm K M Q s0 s1 s2 s3 s4 vm vr u1 v1 u2 v2).toList ∧ PolOk w K M Q s0 s1 s2 s3 s4 vm vr u1 v1 u2 v2
theorem LawCell.below {w w' : World} (hb : Below w.heap.size w w') (g o : Nat) (hg : g < w.heap.size) (h : LawCell w g o) : LawCell w' g o := by
  obtain ⟨a, b, c, d, h1, h2⟩ := h
  exact ⟨a, b, c, d, h1.below hb hg, h2.below hb⟩
theorem ModCell.below {w w' : World} (hb : Below w.heap.size w w') (g o : Nat) (hg : g < w.heap.size) (h : ModCell w g o) : ModCell w' g o := by
  obtain ⟨a, b, c, d, h1⟩ := h
  exact ⟨a, b, c, d, h1.below hb hg⟩
theorem DrvCell.below {w w' : World} (hb : Below w.heap.size w w') (g o : Nat) (hg : g < w.heap.size) (h : DrvCell w g o) : DrvCell w' g o := by
  obtain ⟨a, b, c, h1⟩ := h
  exact ⟨a, b, c, h1.below hb hg⟩
theorem VolCell.below {w w' : World} (hb : Below w.heap.size w w') (g o : Nat) (hg : g < w.heap.size) (h : VolCell w g o) : VolCell w' g o := by
  obtain ⟨a, b, h1⟩ := h
  exact ⟨a, b, h1.below hb hg⟩
theorem PolCell.below {w w' : World} (hb : Below w.heap.size w w') (g o : Nat) (hg : g < w.heap.size) (h : PolCell w g o) : PolCell w' g o := by
  obtain ⟨a, b, c, d, e, f, i, j, k, l, m, n, p, q, r, h1, h2⟩ := h
  exact ⟨a, b, c, d, e, f, i, j, k, l, m, n, p, q, r, h1.below hb hg, h2.below hb⟩
/-- A fleet in memory. -/
structure FleetIn (w : World) (vl vm vd vr vp vv : Value) (nl nd nr np nv : Nat) : Prop where
  laws : RowsIn w vl nl 4 LawCell
  models : RowsIn w vm 2 4 ModCell
  doms : ∃ g off c, vd = .slice (some ⟨g, off, none⟩) nd c ∧ nd ≤ c ∧ c ≤ maxLen ∧ DomsIn w g off nd
  drives : RowsIn w vr nr 3 DrvCell
  pols : RowsIn w vp np 17 PolCell
  vols : RowsIn w vv nv 2 VolCell
  sizes : nl ≤ 100 ∧ 2 ≤ nd ∧ nd ≤ 100 ∧ nr ≤ 100 ∧ np ≤ 100 ∧ nv ≤ 100
theorem FleetIn.below {w w' : World} {vl vm vd vr vp vv : Value} {nl nd nr np nv : Nat} (h : FleetIn w vl vm vd vr vp vv nl nd nr np nv) (hb : Below w.heap.size w w') : FleetIn w' vl vm vd vr vp vv nl nd nr np nv := by
  obtain ⟨h1, h2, ⟨g, off, c, e, e1, e2, h3⟩, h4, h5, h6, h7⟩ := h
  exact ⟨h1.below hb (LawCell.below hb), h2.below hb (ModCell.below hb), ⟨g, off, c, e, e1, e2, h3.below hb⟩, h4.below hb (DrvCell.below hb), h5.below hb (PolCell.below hb), h6.below hb (VolCell.below hb), h7⟩
/-- Names that the call gathers. -/
def Texts (wb w : World) (v : Value) (n : Nat) : Prop := ∃ o xs, OwnSl w o 1 v n xs ∧ Above wb.heap.size o ∧ Under w o ∧ ∀ u ∈ xs, ∃ s, u = Value.string s
theorem Texts.nil (wb w : World) : Texts wb w (.slice none 0 0) 0 := ⟨NoOwn, [], OwnSl.nil _ _ _, fun _ e => e.elim, fun _ e => e.elim, fun _ h => by cases h⟩
theorem Texts.below {wb w w' : World} {v : Value} {n : Nat} (h : Texts wb w v n) (hb : Below w.heap.size w w') : Texts wb w' v n := by
  obtain ⟨o, xs, h1, h2, h3, h4⟩ := h
  exact ⟨o, xs, h1.below hb, h2, h3.mv hb.size, h4⟩
theorem Texts.strs {wb w : World} {v : Value} {n : Nat} (h : Texts wb w v n) (hn : n ≤ 1000) : StrsAt w v n := by
  obtain ⟨o, xs, h1, _, _, h4⟩ := h
  rcases Nat.eq_zero_or_pos n with h0 | h0
  · subst h0
    rcases h1.2 with ⟨rfl, _⟩ | ⟨g, off, c, rfl, _, _, _, hc, _⟩
    · exact ⟨none, 0, rfl, Nat.le_refl _, Nat.zero_le _, fun h => by omega⟩
    · exact ⟨_, c, rfl, Nat.zero_le _, hc, fun h => by omega⟩
  · have hl := h1.1
    obtain ⟨g, off, c, rfl, _, hg, hnc, hc, hx, _⟩ := h1.some_ h0
    refine ⟨_, c, rfl, hnc, hc, fun _ => ⟨g, off, rfl, hg, fun j hj => ?_⟩⟩
    have hj2 : j < xs.length := by omega
    obtain ⟨s, hs⟩ := h4 xs[j] (List.getElem_mem hj2)
    exact ⟨s, by rw [hx j xs[j] (List.getElem?_eq_getElem hj2), hs]⟩
def ErrPost (w : World) (e : Ending) (w' : World) : Prop := ∃ k : Int, e = .returned (.int .i64 k) ∧ Below w.heap.size w w'
theorem Try.info_str : (Try.prog.info? 9).map (fun i => (i.zero, i.size, i.bytes)) = some (some (.string ⟨#[]⟩), 1, 16) := by kernel_rfl
theorem in_at (x lo hi : Int) (c : Bool) (h : decide (lo ≤ x ∧ x ≤ hi) = c) (w : World) : Calls Try.prog 38 #[.int .i64 x, .int .i64 lo, .int .i64 hi] w fun e w' => e = .returned (.bool c) ∧ w = w' := h ▸ in_any x lo hi w
set_option maxRecDepth 100000 in
set_option maxHeartbeats 80000000 in
theorem validate_any {w : World} {ex : Int} {vl vm vd vr vp vv : Value} {nl nd nr np nv : Nat} (h : FleetIn w vl vm vd vr vp vv nl nd nr np nv) :
    Calls Try.prog 32 #[.agg (fleetArr ex vl vm vd vr vp vv)] w (ErrPost w) := by
  obtain ⟨hs1, hs2, hs3, hs4, hs5, hs6⟩ := h.sizes
  obtain ⟨gd, od, cd, rfl, hdc, hdm, _⟩ := h.doms
  obtain ⟨nd', rfl⟩ : ∃ n', nd = n' + 1 := ⟨nd - 1, by omega⟩
  obtain ⟨Al, cl, rfl, hlc, hlm, _⟩ := h.laws
  obtain ⟨Am, cm, rfl, hmc, hmm, _⟩ := h.models
  obtain ⟨Ar, cr, rfl, hrc, hrm, _⟩ := h.drives
  obtain ⟨Ap, cp, rfl, hpc, hpm, _⟩ := h.pols
  obtain ⟨Av, cv, rfl, hvc, hvm, _⟩ := h.vols
  have hb1 := (Below.refl w.heap.size w).alloc (Nat.le_refl _) (.cells (fleetArr ex (.slice Al nl cl) (.slice Am 2 cm) (.slice (some ⟨gd, od, none⟩) (nd' + 1) cd) (.slice Ar nr cr) (.slice Ap np cp) (.slice Av nv cv)) 33)
  have hg1 := heap_alloc_new w (.cells (fleetArr ex (.slice Al nl cl) (.slice Am 2 cm) (.slice (some ⟨gd, od, none⟩) (nd' + 1) cd) (.slice Ar nr cr) (.slice Ap np cp) (.slice Av nv cv)) 33)
  have hf := h.below hb1
  have HF := hid hf
  have HB := hid hb1
  have HC := hid (fun (W : World) (hW : Below (w.alloc (.cells (fleetArr ex (.slice Al nl cl) (.slice Am 2 cm) (.slice (some ⟨gd, od, none⟩) (nd' + 1) cd) (.slice Ar nr cr) (.slice Ap np cp) (.slice Av nv cv)) 33)).heap.size (w.alloc (.cells (fleetArr ex (.slice Al nl cl) (.slice Am 2 cm) (.slice (some ⟨gd, od, none⟩) (nd' + 1) cd) (.slice Ar nr cr) (.slice Ap np cp) (.slice Av nv cv)) 33)) W) =>
    (show W.cell? ⟨w.heap.size, 0, none⟩ = some (.int .i64 ex) ∧ W.cell? ⟨w.heap.size, 1, none⟩ = some (.slice Al nl cl) ∧ W.cell? ⟨w.heap.size, 2, none⟩ = some (.slice Am 2 cm) ∧ W.cell? ⟨w.heap.size, 3, none⟩ = some (.slice (some ⟨gd, od, none⟩) (nd' + 1) cd) ∧ W.cell? ⟨w.heap.size, 4, none⟩ = some (.slice Ar nr cr) ∧ W.cell? ⟨w.heap.size, 5, none⟩ = some (.slice Ap np cp) ∧ W.cell? ⟨w.heap.size, 6, none⟩ = some (.slice Av nv cv) from by
      have hgg := (hW.block _ (Array.getElem?_eq_some_iff.1 hg1).1).trans hg1
      exact ⟨cell_block hgg 0, cell_block hgg 1, cell_block hgg 2, cell_block hgg 3, cell_block hgg 4, cell_block hgg 5, cell_block hgg 6⟩))
  obtain ⟨i0, hi0, hz0, hz1, hz2⟩ := info_parts Try.info_str
  unfold maxLen at hdm hlm hmm hrm hpm hvm
  clear hb1 hg1 hf h
  go_enter Try.func32, Try.ntmps32
  go_wp2_with fail
  generalize w.alloc (.cells (fleetArr ex (.slice Al nl cl) (.slice Am 2 cm) (.slice (some ⟨gd, od, none⟩) (nd' + 1) cd) (.slice Ar nr cr) (.slice Ap np cp) (.slice Av nv cv)) 33) = w1 at *
  cases hin : decide (1 ≤ ex ∧ ex ≤ 4)
  case false =>
    refine (in_at ex 1 4 false hin w1).mono ?_
    rintro e w2 ⟨rfl, rfl⟩
    go_wp2
    go_ret
    exact ⟨_, rfl, HB.out⟩
  refine (in_at ex 1 4 true hin w1).mono ?_
  rintro e w2 ⟨rfl, rfl⟩
  clear hin
  obtain ⟨b0, b1, b2, b3, b4, b5, b6⟩ := HC.out w1 (Below.refl _ _)
  by_cases qnl : 4 < nl
  · go_wp2
    go_ret
    exact ⟨_, rfl, HB.out⟩
  by_cases qnd : 40 < nd' + 1
  · go_wp2
    go_ret
    exact ⟨_, rfl, HB.out⟩
  by_cases qnr : 24 < nr
  · go_wp2
    go_ret
    exact ⟨_, rfl, HB.out⟩
  by_cases qnp : 4 < np
  · go_wp2
    go_ret
    exact ⟨_, rfl, HB.out⟩
  by_cases qnv : 12 < nv
  · go_wp2
    go_ret
    exact ⟨_, rfl, HB.out⟩
  have hnd : 1 ≤ nd' + 1 := by omega
  go_wp2_with fail
  refine (domains_any (ex := ex) (by obtain ⟨g', off', c', e, _, _, hd⟩ := HF.out.doms; injection e with e1 _ _; injection e1 with e1; injection e1 with e1 e2 _; subst e1 e2; exact hd) (by omega) hdc (by unfold maxLen; omega)).mono ?_
  rintro e w2 ⟨b, rfl, hbb2⟩
  have HX2 := hid hbb2
  clear hbb2 b0 b1 b2 b3 b4 b5 b6
  cases b
  · go_wp2
    go_ret
    exact ⟨_, rfl, HB.out.trans (HX2.out.mono HB.out.size)⟩
  obtain ⟨wb1, hwb⟩ : ∃ x, x = w2 := ⟨_, rfl⟩
  subst hwb
  have HXb := hid HX2.out
  obtain ⟨b0, b1, b2, b3, b4, b5, b6⟩ := HC.out _ HXb.out
  clear HX2 b0 b2 b3 b4 b5 b6
  go_wp2_with fail
  go_loopw [3, 8, 69] (fun s b i wr => ∃ (k : Nat) (ok : Bool), k ≤ nl ∧ i = .int .i64 k ∧ b = .bool ok ∧ Hid (Texts wb1 wr s k) ∧ Hid (Below wb1.heap.size wb1 wr)) (fun _ _ i _ => (nl - intOf i).toNat)
  case atStart => exact ⟨0, true, Nat.zero_le _, rfl, rfl, hid (Texts.nil _ _), hid (Below.refl _ _)⟩
  case round =>
    obtain ⟨k, ok, hk, rfl, rfl, HT, HBL⟩ := hrel
    by_cases hlt : k < nl
    · as_aux_lemma =>
        have HXr := hid (HXb.out.trans (HBL.out.mono HXb.out.size))
        obtain ⟨A', c', e, _, _, hrows⟩ := HF.out.laws
        obtain ⟨g, off, rfl, hgl, hrow⟩ := hrows (by omega)
        injection e with e1 _ e3
        subst e1 e3
        obtain ⟨nm, vs, lr, ve, hcs, hlaw⟩ := hrow k hlt
        obtain ⟨⟨sg, so, sc, rfl, _⟩, ⟨eg, eo, ec, rfl, _⟩, ⟨rg, ro, rc, rfl, _⟩⟩ := id hlaw
        have HLW := hid hlaw
        clear hlaw
        have y0 : wr.cell? ⟨g, off + k * 4, none⟩ = some (.string nm) := (HXr.out.cell (p := ⟨g, off + k * 4 + 0, none⟩) hgl).trans (hcs 0 _ rfl)
        have y1 : wr.cell? ⟨g, off + k * 4 + 1, none⟩ = some (.slice (some ⟨sg, so, none⟩) 1 sc) := (HXr.out.cell (p := ⟨g, off + k * 4 + 1, none⟩) hgl).trans (hcs 1 _ rfl)
        have y2 : wr.cell? ⟨g, off + k * 4 + 2, none⟩ = some (.slice (some ⟨rg, ro, none⟩) 1 rc) := (HXr.out.cell (p := ⟨g, off + k * 4 + 2, none⟩) hgl).trans (hcs 2 _ rfl)
        have y3 : wr.cell? ⟨g, off + k * 4 + 3, none⟩ = some (.slice (some ⟨eg, eo, none⟩) 1 ec) := (HXr.out.cell (p := ⟨g, off + k * 4 + 3, none⟩) hgl).trans (hcs 3 _ rfl)
        clear hcs hrow hrows
        have hbe := (Below.refl wr.heap.size wr).alloc (Nat.le_refl _) (.cells #[.string nm, .slice (some ⟨sg, so, none⟩) 1 sc, .slice (some ⟨rg, ro, none⟩) 1 rc, .slice (some ⟨eg, eo, none⟩) 1 ec] 64)
        have hge := heap_alloc_new wr (.cells #[.string nm, .slice (some ⟨sg, so, none⟩) 1 sc, .slice (some ⟨rg, ro, none⟩) 1 rc, .slice (some ⟨eg, eo, none⟩) 1 ec] 64)
        obtain ⟨o, xs, ho, hoa, hou, hot⟩ := HT.out
        obtain ⟨As, cs, rfl, hcs⟩ := ho.form
        have HO := hid (ho.below hbe)
        have HOA := hid hoa
        have HOU := hid hou
        have HOT := hid hot
        have e0 := cell_block hge 0
        simp only [List.getElem?_toArray, List.getElem?_cons_zero] at e0
        have HGE := hid hge
        have HBE := hid hbe
        clear ho hoa hou hot hge hbe
        go_upto_region 8 with fail
        clear y0 y1 y2 y3
        generalize wr.alloc (.cells #[.string nm, .slice (some ⟨sg, so, none⟩) 1 sc, .slice (some ⟨rg, ro, none⟩) 1 rc, .slice (some ⟨eg, eo, none⟩) 1 ec] 64) = we at *
        have HEL := hid (show we.heap.size = we.heap.size from rfl)
        have HQL := hid (Array.getElem?_eq_some_iff.1 HGE.out).1
        have HNQ := hid (show ¬ o wr.heap.size from fun e => by have := HOU.out _ e; omega)
        have HBR := hid (show Below wr.heap.size wr we from HBE.out)
        have HWS := hid HBL.out.size
        generalize hq : wr.heap.size = q at *
        have HQ := hid hq
        clear hq
        go_wp2_with (at_builtin; refine wpList_append_sl (by rfl) (.tmp 73) (.tmp 76) 104 (by rfl) 9 i0 _ 1 16 Try.underlying104 hi0 hz0 hz1 hz2 rfl (by decide) o _ (.slice (some ⟨we.heap.size, 0, none⟩) 1 1) k 1 xs [.string nm] (by rfl) (by rfl) (HO.out.below ((Below.refl _ _).alloc (Nat.le_refl _) _)) ⟨rfl, .inr ⟨_, 1, rfl, World.news_of_block (cs := #[.string nm]) (fr := (0, 0)) (heap_alloc_new we _)⟩⟩ (by intro u hu; simp at hu; subst hu; rfl) (by unfold maxLen; omega) (by omega) ?_)
        intro v6 w6 hown6 hgrow
        have hga := (Fr.refl o we).alloc (.cells #[.string nm] 9)
        have hfr : Fr o we w6 := hga.trans (fun _ e => .inl e) hgrow
        have HG6 := hid ((hfr.block q HQL.out HNQ.out).trans HGE.out)
        have HBW : Hid (Below wb1.heap.size wb1 we) := hid (HBL.out.trans (HBR.out.mono (HWS.out)))
        have hsz : wb1.heap.size ≤ we.heap.size := HBW.out.size
        have HB6 := hid (below_of_fr HBW.out hfr HOA.out hsz)
        have HT6 := hid (show Texts wb1 w6 v6 (k + 1) from ⟨_, _, hown6, hgrow.mv.above HOA.out (by simp; omega), hgrow.under (HOU.out.mv (by simp; have := HBR.out.size; omega)), fun u hu => by
          rw [List.mem_append] at hu
          rcases hu with hu | hu
          · exact HOT.out u hu
          · simp at hu; exact ⟨nm, hu⟩⟩)
        have HX6 := hid (HXb.out.trans (HB6.out.mono HXb.out.size))
        obtain ⟨A6, c6, rfl, hc6⟩ := hown6.form
        clear hown6 hgrow hga hfr HO HOA HOU HOT HNQ HBR HBE HGE HQL hsz e0 HT HBL HBW HXr HEL HWS
        have HT7 : Hid (Texts wb1 w6 _ (k + 1)) := HT6
        cases ok
        case false =>
          have HB7 := HB6
          go_wp2
          refine ⟨?_, ?_⟩
          · first
              | exact ⟨k + 1, false, by omega, by go_num, rfl, HT7, HB7⟩
              | exact ⟨_, _, _, _, _, _, _, _, _, _, _, _, _, _, _, _, _, _, ⟨k + 1, false, by omega, by go_num, rfl, HT7, HB7⟩, rfl⟩
          · (simp [intOf]; try omega)
        have z0 := cell_block HG6.out 0
        have z1 := cell_block HG6.out 1
        have z2 := cell_block HG6.out 2
        have z3 := cell_block HG6.out 3
        simp only [List.getElem?_toArray, List.getElem?_cons_zero, List.getElem?_cons_succ] at z0 z1 z2 z3
        obtain ⟨f0, f1, f2, f3, f4, f5, f6⟩ := HC.out _ HX6.out
        have HLW6 := hid (HLW.out.below HX6.out)
        go_wp2_with fail
        refine (validlaw_any HLW6.out).mono ?_
        rintro e w7 ⟨c, rfl, hb7⟩
        have HT8 := hid (HT7.out.below hb7)
        have HB7 := hid (HB6.out.trans (hb7.mono HB6.out.size))
        clear hb7 HT7 HB6 z0 z1 z2 z3 f0 f1 f2 f3 f4 f5 f6
        have HT7 := HT8
        go_wp2
        refine ⟨?_, ?_⟩
        · first
            | exact ⟨k + 1, c, by omega, by go_num, rfl, HT7, HB7⟩
            | exact ⟨_, _, _, _, _, _, _, _, _, _, _, _, _, _, _, _, _, _, ⟨k + 1, c, by omega, by go_num, rfl, HT7, HB7⟩, rfl⟩
        · (simp [intOf]; try omega)
    · obtain rfl : nl = k := by omega
      have hst := HT.out.strs (by omega)
      obtain ⟨As0, cs0, rfl, hcs0, hcm0, _⟩ := id hst
      have HL1 := hid hst
      have HXr := hid (HXb.out.trans (HBL.out.mono HXb.out.size))
      obtain ⟨wb2, hwb⟩ : ∃ x, x = wr := ⟨_, rfl⟩
      subst hwb
      clear HT HBL hst HXb
      have HXb := HXr
      clear HXr
      obtain ⟨b0, b1, b2, b3, b4, b5, b6⟩ := HC.out _ HXb.out
      clear b0 b1 b3 b4 b5 b6
      go_wp2_with fail
      go_loopw [4, 8, 87] (fun s b i wr => ∃ (k : Nat) (ok : Bool), k ≤ 2 ∧ i = .int .i64 k ∧ b = .bool ok ∧ Hid (Texts wb2 wr s k) ∧ Hid (Below wb2.heap.size wb2 wr)) (fun _ _ i _ => (2 - intOf i).toNat)
      case atStart => exact ⟨0, ok, Nat.zero_le _, rfl, rfl, hid (Texts.nil _ _), hid (Below.refl _ _)⟩
      case round =>
        obtain ⟨k, ok, hk, rfl, rfl, HT, HBL⟩ := hrel
        by_cases hlt : k < 2
        · as_aux_lemma =>
            have HXr := hid (HXb.out.trans (HBL.out.mono HXb.out.size))
            obtain ⟨A', c', e, _, _, hrows⟩ := HF.out.models
            obtain ⟨g, off, rfl, hgl, hrow⟩ := hrows (by omega)
            injection e with e1 _ e3
            subst e1 e3
            obtain ⟨nm, mx, my, mz, hcs⟩ := hrow k hlt
            have y0 : wr.cell? ⟨g, off + k * 4, none⟩ = some (.string nm) := (HXr.out.cell (p := ⟨g, off + k * 4 + 0, none⟩) hgl).trans (hcs 0 _ rfl)
            have y1 : wr.cell? ⟨g, off + k * 4 + 1, none⟩ = some (.int .i64 mx) := (HXr.out.cell (p := ⟨g, off + k * 4 + 1, none⟩) hgl).trans (hcs 1 _ rfl)
            have y2 : wr.cell? ⟨g, off + k * 4 + 2, none⟩ = some (.int .i64 my) := (HXr.out.cell (p := ⟨g, off + k * 4 + 2, none⟩) hgl).trans (hcs 2 _ rfl)
            have y3 : wr.cell? ⟨g, off + k * 4 + 3, none⟩ = some (.int .i64 mz) := (HXr.out.cell (p := ⟨g, off + k * 4 + 3, none⟩) hgl).trans (hcs 3 _ rfl)
            clear hcs hrow hrows
            have hbe := (Below.refl wr.heap.size wr).alloc (Nat.le_refl _) (.cells #[.string nm, .int .i64 mx, .int .i64 my, .int .i64 mz] 66)
            have hge := heap_alloc_new wr (.cells #[.string nm, .int .i64 mx, .int .i64 my, .int .i64 mz] 66)
            obtain ⟨o, xs, ho, hoa, hou, hot⟩ := HT.out
            obtain ⟨As, cs, rfl, hcs⟩ := ho.form
            have HO := hid (ho.below hbe)
            have HOA := hid hoa
            have HOU := hid hou
            have HOT := hid hot
            have e0 := cell_block hge 0
            simp only [List.getElem?_toArray, List.getElem?_cons_zero] at e0
            have HGE := hid hge
            have HBE := hid hbe
            clear ho hoa hou hot hge hbe
            go_upto_region 14 with fail
            clear y0 y1 y2 y3
            generalize wr.alloc (.cells #[.string nm, .int .i64 mx, .int .i64 my, .int .i64 mz] 66) = we at *
            have HEL := hid (show we.heap.size = we.heap.size from rfl)
            have HQL := hid (Array.getElem?_eq_some_iff.1 HGE.out).1
            have HNQ := hid (show ¬ o wr.heap.size from fun e => by have := HOU.out _ e; omega)
            have HBR := hid (show Below wr.heap.size wr we from HBE.out)
            have HWS := hid HBL.out.size
            generalize hq : wr.heap.size = q at *
            have HQ := hid hq
            clear hq
            go_wp2_with (at_builtin; refine wpList_append_sl (by rfl) (.tmp 91) (.tmp 94) 104 (by rfl) 9 i0 _ 1 16 Try.underlying104 hi0 hz0 hz1 hz2 rfl (by decide) o _ (.slice (some ⟨we.heap.size, 0, none⟩) 1 1) k 1 xs [.string nm] (by rfl) (by rfl) (HO.out.below ((Below.refl _ _).alloc (Nat.le_refl _) _)) ⟨rfl, .inr ⟨_, 1, rfl, World.news_of_block (cs := #[.string nm]) (fr := (0, 0)) (heap_alloc_new we _)⟩⟩ (by intro u hu; simp at hu; subst hu; rfl) (by unfold maxLen; omega) (by omega) ?_)
            intro v6 w6 hown6 hgrow
            have hga := (Fr.refl o we).alloc (.cells #[.string nm] 9)
            have hfr : Fr o we w6 := hga.trans (fun _ e => .inl e) hgrow
            have HG6 := hid ((hfr.block q HQL.out HNQ.out).trans HGE.out)
            have HBW : Hid (Below wb2.heap.size wb2 we) := hid (HBL.out.trans (HBR.out.mono (HWS.out)))
            have hsz : wb2.heap.size ≤ we.heap.size := HBW.out.size
            have HB6 := hid (below_of_fr HBW.out hfr HOA.out hsz)
            have HT6 := hid (show Texts wb2 w6 v6 (k + 1) from ⟨_, _, hown6, hgrow.mv.above HOA.out (by simp; omega), hgrow.under (HOU.out.mv (by simp; have := HBR.out.size; omega)), fun u hu => by
              rw [List.mem_append] at hu
              rcases hu with hu | hu
              · exact HOT.out u hu
              · simp at hu; exact ⟨nm, hu⟩⟩)
            have HX6 := hid (HXb.out.trans (HB6.out.mono HXb.out.size))
            obtain ⟨A6, c6, rfl, hc6⟩ := hown6.form
            clear hown6 hgrow hga hfr HO HOA HOU HOT HNQ HBR HBE HGE HQL hsz e0 HT HBL HBW HXr HEL HWS
            have HT7 : Hid (Texts wb2 w6 _ (k + 1)) := HT6
            cases ok
            case false =>
              have HB7 := HB6
              go_wp2
              refine ⟨?_, ?_⟩
              · first
                  | exact ⟨k + 1, false, by omega, by go_num, rfl, HT7, HB7⟩
                  | exact ⟨_, _, _, _, _, _, _, _, _, _, _, _, _, _, _, _, _, _, _, _, _, _, _, _, _, _, _, _, _, _, _, _, _, ⟨k + 1, false, by omega, by go_num, rfl, HT7, HB7⟩, rfl⟩
              · (simp [intOf]; try omega)
            have z0 := cell_block HG6.out 0
            have z1 := cell_block HG6.out 1
            have z2 := cell_block HG6.out 2
            have z3 := cell_block HG6.out 3
            simp only [List.getElem?_toArray, List.getElem?_cons_zero, List.getElem?_cons_succ] at z0 z1 z2 z3
            obtain ⟨f0, f1, f2, f3, f4, f5, f6⟩ := HC.out _ HX6.out
            have HB7 := HB6
            go_wp2_with fail
            cases h1 : decide (1 ≤ mx ∧ mx ≤ 16)
            case false =>
              refine (in_at mx 1 16 false h1 w6).mono ?_
              rintro e w7 ⟨rfl, rfl⟩
              go_wp2
              refine ⟨?_, ?_⟩
              · first
                  | exact ⟨k + 1, false, by omega, by go_num, rfl, HT7, HB7⟩
                  | exact ⟨_, _, _, _, _, _, _, _, _, _, _, _, _, _, _, _, _, _, _, _, _, _, _, _, _, _, _, _, _, _, _, _, _, ⟨k + 1, false, by omega, by go_num, rfl, HT7, HB7⟩, rfl⟩
              · (simp [intOf]; try omega)
            refine (in_at mx 1 16 true h1 w6).mono ?_
            rintro e w7 ⟨rfl, rfl⟩
            clear h1
            go_wp2_with fail
            cases h2 : decide (1 ≤ my ∧ my ≤ 64)
            case false =>
              refine (in_at my 1 64 false h2 w6).mono ?_
              rintro e w7 ⟨rfl, rfl⟩
              go_wp2
              refine ⟨?_, ?_⟩
              · first
                  | exact ⟨k + 1, false, by omega, by go_num, rfl, HT7, HB7⟩
                  | exact ⟨_, _, _, _, _, _, _, _, _, _, _, _, _, _, _, _, _, _, _, _, _, _, _, _, _, _, _, _, _, _, _, _, _, ⟨k + 1, false, by omega, by go_num, rfl, HT7, HB7⟩, rfl⟩
              · (simp [intOf]; try omega)
            refine (in_at my 1 64 true h2 w6).mono ?_
            rintro e w7 ⟨rfl, rfl⟩
            clear h2
            go_wp2_with fail
            refine (in_bool mz 0 ((nl : Int) - 1) w6).mono ?_
            rintro e w7 ⟨⟨c, rfl, _⟩, rfl⟩
            go_wp2
            refine ⟨?_, ?_⟩
            · first
                | exact ⟨k + 1, c, by omega, by go_num, rfl, HT7, HB7⟩
                | exact ⟨_, _, _, _, _, _, _, _, _, _, _, _, _, _, _, _, _, _, _, _, _, _, _, _, _, _, _, _, _, _, _, _, _, ⟨k + 1, c, by omega, by go_num, rfl, HT7, HB7⟩, rfl⟩
            · (simp [intOf]; try omega)
        · obtain rfl : k = 2 := by omega
          have hst := HT.out.strs (by omega)
          obtain ⟨As1, cs1, rfl, hcs1, hcm1, _⟩ := id hst
          have HL2 := hid hst
          have HXr := hid (HXb.out.trans (HBL.out.mono HXb.out.size))
          replace HL1 := hid (HL1.out.below HBL.out)
          obtain ⟨wb3, hwb⟩ : ∃ x, x = wr := ⟨_, rfl⟩
          subst hwb
          clear HT HBL hst HXb
          have HXb := HXr
          clear HXr
          obtain ⟨b0, b1, b2, b3, b4, b5, b6⟩ := HC.out _ HXb.out
          clear b0 b1 b2 b4 b5 b6
          have hI1 : (1 : Int) ≤ ((nd' + 1 : Nat) : Int) := by omega
          have hI3 : ((cd : Int) - 1 == 0) = false := by rw [beq_eq_false_iff_ne]; omega
          have hI4 : ¬ (cd : Int) - 1 = 0 := by omega
          have hI5 : ¬ cd = 1 := by omega
          go_wp2_with fail
          go_loopw [5, 121] (fun s i wr => ∃ (k : Nat), k ≤ nd' ∧ i = .int .i64 k ∧ Hid (Texts wb3 wr s k) ∧ Hid (Below wb3.heap.size wb3 wr)) (fun _ i _ => (nd' - intOf i).toNat)
          case atStart => exact ⟨0, Nat.zero_le _, rfl, hid (Texts.nil _ _), hid (Below.refl _ _)⟩
          case round =>
            obtain ⟨k, hk, rfl, HT, HBL⟩ := hrel
            by_cases hlt : k < nd'
            · as_aux_lemma =>
                have HXr := hid (HXb.out.trans (HBL.out.mono HXb.out.size))
                obtain ⟨g', off', c', e, _, _, hd⟩ := (HF.out.below HXr.out).doms
                injection e with e1 _ e3
                injection e1 with e1
                injection e1 with e1 e2 _
                subst e1 e2 e3
                obtain ⟨nm, lv, pa, up, hdom, _, _⟩ := hd.each (k + 1) (by omega)
                rw [show od + (k + 1) * 7 = od + 7 + k * 7 by omega] at hdom
                obtain ⟨y0, y1, y2, y3, hgs, u, v, a, b, y4, y5, y6, hu, hv, _⟩ := hdom
                obtain ⟨U, m3, c3, rfl⟩ := hu.sl
                obtain ⟨V, m4, c4, rfl⟩ := hv.sl
                have y5' : wr.cell? ⟨gd, od + 7 + k * 7 + 5, none⟩ = some (.slice U m3 c3) := y5
                have y6' : wr.cell? ⟨gd, od + 7 + k * 7 + 6, none⟩ = some (.slice V m4 c4) := y6
                clear hd y5 y6 hu hv
                have hbe := (Below.refl wr.heap.size wr).alloc (Nat.le_refl _) (.cells #[.string nm, .int .i64 lv, .int .i64 pa, .int .i64 up, .bool false, .slice U m3 c3, .slice V m4 c4] 68)
                have hge := heap_alloc_new wr (.cells #[.string nm, .int .i64 lv, .int .i64 pa, .int .i64 up, .bool false, .slice U m3 c3, .slice V m4 c4] 68)
                obtain ⟨o, xs, ho, hoa, hou, hot⟩ := HT.out
                obtain ⟨As, cs, rfl, hcs⟩ := ho.form
                have HO := hid (ho.below hbe)
                have HOA := hid hoa
                have HOU := hid hou
                have HOT := hid hot
                have e0 := cell_block hge 0
                simp only [List.getElem?_toArray, List.getElem?_cons_zero] at e0
                have HGE := hid hge
                have HBE := hid hbe
                clear ho hoa hou hot hge hbe
                go_upto_region 20 with fail
                clear y0 y1 y2 y3 y4 y5' y6'
                generalize wr.alloc (.cells #[.string nm, .int .i64 lv, .int .i64 pa, .int .i64 up, .bool false, .slice U m3 c3, .slice V m4 c4] 68) = we at *
                have HEL := hid (show we.heap.size = we.heap.size from rfl)
                have HQL := hid (Array.getElem?_eq_some_iff.1 HGE.out).1
                have HNQ := hid (show ¬ o wr.heap.size from fun e => by have := HOU.out _ e; omega)
                have HBR := hid (show Below wr.heap.size wr we from HBE.out)
                have HWS := hid HBL.out.size
                generalize hq : wr.heap.size = q at *
                have HQ := hid hq
                clear hq
                go_wp2_with (at_builtin; refine wpList_append_sl (by rfl) (.tmp 125) (.tmp 128) 104 (by rfl) 9 i0 _ 1 16 Try.underlying104 hi0 hz0 hz1 hz2 rfl (by decide) o _ (.slice (some ⟨we.heap.size, 0, none⟩) 1 1) k 1 xs [.string nm] (by rfl) (by rfl) (HO.out.below ((Below.refl _ _).alloc (Nat.le_refl _) _)) ⟨rfl, .inr ⟨_, 1, rfl, World.news_of_block (cs := #[.string nm]) (fr := (0, 0)) (heap_alloc_new we _)⟩⟩ (by intro u hu; simp at hu; subst hu; rfl) (by unfold maxLen; omega) (by omega) ?_)
                intro v6 w6 hown6 hgrow
                have hga := (Fr.refl o we).alloc (.cells #[.string nm] 9)
                have hfr : Fr o we w6 := hga.trans (fun _ e => .inl e) hgrow
                have HG6 := hid ((hfr.block q HQL.out HNQ.out).trans HGE.out)
                have HBW : Hid (Below wb3.heap.size wb3 we) := hid (HBL.out.trans (HBR.out.mono (HWS.out)))
                have hsz : wb3.heap.size ≤ we.heap.size := HBW.out.size
                have HB6 := hid (below_of_fr HBW.out hfr HOA.out hsz)
                have HT6 := hid (show Texts wb3 w6 v6 (k + 1) from ⟨_, _, hown6, hgrow.mv.above HOA.out (by simp; omega), hgrow.under (HOU.out.mv (by simp; have := HBR.out.size; omega)), fun u hu => by
                  rw [List.mem_append] at hu
                  rcases hu with hu | hu
                  · exact HOT.out u hu
                  · simp at hu; exact ⟨nm, hu⟩⟩)
                have HX6 := hid (HXb.out.trans (HB6.out.mono HXb.out.size))
                obtain ⟨A6, c6, rfl, hc6⟩ := hown6.form
                clear hown6 hgrow hga hfr HO HOA HOU HOT HNQ HBR HBE HGE HQL hsz e0 HT HBL HBW HXr HEL HWS
                have HT7 := HT6
                have HB7 := HB6
                go_wp2
                refine ⟨?_, ?_⟩
                · first
                    | exact ⟨k + 1, by omega, by go_num, HT7, HB7⟩
                    | exact ⟨_, _, _, _, _, _, _, _, _, _, _, _, ⟨k + 1, by omega, by go_num, HT7, HB7⟩, rfl⟩
                · (simp [intOf]; try omega)
            · obtain rfl : nd' = k := by omega
              have HT0 : Hid (Texts wb3 wr _ (nd' + 0)) := HT
              have HBx := HBL
              have HXr := hid (HXb.out.trans (HBL.out.mono HXb.out.size))
              obtain ⟨b0, b1, b2, b3, b4, b5, b6⟩ := HC.out _ HXr.out
              clear HT HBL b0 b1 b2 b3 b5 b6 HXr
              obtain ⟨_, _, ho', _⟩ := HT0.out
              obtain ⟨As, cs, rfl, hcs⟩ := ho'.form
              clear ho'
              go_wp2_with fail
              go_loopw [5, 8, 134] (fun s b i wr => ∃ (k : Nat) (ok : Bool), k ≤ nr ∧ i = .int .i64 k ∧ b = .bool ok ∧ Hid (Texts wb3 wr s (nd' + k)) ∧ Hid (Below wb3.heap.size wb3 wr)) (fun _ _ i _ => (nr - intOf i).toNat)
              case atStart => exact ⟨0, ok, Nat.zero_le _, rfl, rfl, HT0, HBx⟩
              case round =>
                clear HT0 HBx
                obtain ⟨k, ok, hk, rfl, rfl, HT, HBL⟩ := hrel
                by_cases hlt : k < nr
                · as_aux_lemma =>
                    have HXr := hid (HXb.out.trans (HBL.out.mono HXb.out.size))
                    obtain ⟨A', c', e, _, _, hrows⟩ := HF.out.drives
                    obtain ⟨g, off, rfl, hgl, hrow⟩ := hrows (by omega)
                    injection e with e1 _ e3
                    subst e1 e3
                    obtain ⟨nm, mx, my, hcs⟩ := hrow k hlt
                    have y0 : wr.cell? ⟨g, off + k * 3, none⟩ = some (.string nm) := (HXr.out.cell (p := ⟨g, off + k * 3 + 0, none⟩) hgl).trans (hcs 0 _ rfl)
                    have y1 : wr.cell? ⟨g, off + k * 3 + 1, none⟩ = some (.int .i64 mx) := (HXr.out.cell (p := ⟨g, off + k * 3 + 1, none⟩) hgl).trans (hcs 1 _ rfl)
                    have y2 : wr.cell? ⟨g, off + k * 3 + 2, none⟩ = some (.int .i64 my) := (HXr.out.cell (p := ⟨g, off + k * 3 + 2, none⟩) hgl).trans (hcs 2 _ rfl)
                    clear hcs hrow hrows
                    have hbe := (Below.refl wr.heap.size wr).alloc (Nat.le_refl _) (.cells #[.string nm, .int .i64 mx, .int .i64 my] 73)
                    have hge := heap_alloc_new wr (.cells #[.string nm, .int .i64 mx, .int .i64 my] 73)
                    obtain ⟨o, xs, ho, hoa, hou, hot⟩ := HT.out
                    obtain ⟨As, cs, rfl, hcs⟩ := ho.form
                    have HO := hid (ho.below hbe)
                    have HOA := hid hoa
                    have HOU := hid hou
                    have HOT := hid hot
                    have e0 := cell_block hge 0
                    simp only [List.getElem?_toArray, List.getElem?_cons_zero] at e0
                    have HGE := hid hge
                    have HBE := hid hbe
                    clear ho hoa hou hot hge hbe
                    go_upto_region 25 with fail
                    clear y0 y1 y2
                    generalize wr.alloc (.cells #[.string nm, .int .i64 mx, .int .i64 my] 73) = we at *
                    have HEL := hid (show we.heap.size = we.heap.size from rfl)
                    have HQL := hid (Array.getElem?_eq_some_iff.1 HGE.out).1
                    have HNQ := hid (show ¬ o wr.heap.size from fun e => by have := HOU.out _ e; omega)
                    have HBR := hid (show Below wr.heap.size wr we from HBE.out)
                    have HWS := hid HBL.out.size
                    generalize hq : wr.heap.size = q at *
                    have HQ := hid hq
                    clear hq
                    go_wp2_with (at_builtin; refine wpList_append_sl (by rfl) (.tmp 138) (.tmp 141) 104 (by rfl) 9 i0 _ 1 16 Try.underlying104 hi0 hz0 hz1 hz2 rfl (by decide) o _ (.slice (some ⟨we.heap.size, 0, none⟩) 1 1) (nd' + k) 1 xs [.string nm] (by rfl) (by rfl) (HO.out.below ((Below.refl _ _).alloc (Nat.le_refl _) _)) ⟨rfl, .inr ⟨_, 1, rfl, World.news_of_block (cs := #[.string nm]) (fr := (0, 0)) (heap_alloc_new we _)⟩⟩ (by intro u hu; simp at hu; subst hu; rfl) (by unfold maxLen; omega) (by omega) ?_)
                    intro v6 w6 hown6 hgrow
                    have hga := (Fr.refl o we).alloc (.cells #[.string nm] 9)
                    have hfr : Fr o we w6 := hga.trans (fun _ e => .inl e) hgrow
                    have HG6 := hid ((hfr.block q HQL.out HNQ.out).trans HGE.out)
                    have HBW : Hid (Below wb3.heap.size wb3 we) := hid (HBL.out.trans (HBR.out.mono (HWS.out)))
                    have hsz : wb3.heap.size ≤ we.heap.size := HBW.out.size
                    have HB6 := hid (below_of_fr HBW.out hfr HOA.out hsz)
                    have HT6 := hid (show Texts wb3 w6 v6 ((nd' + k) + 1) from ⟨_, _, hown6, hgrow.mv.above HOA.out (by simp; omega), hgrow.under (HOU.out.mv (by simp; have := HBR.out.size; omega)), fun u hu => by
                      rw [List.mem_append] at hu
                      rcases hu with hu | hu
                      · exact HOT.out u hu
                      · simp at hu; exact ⟨nm, hu⟩⟩)
                    have HX6 := hid (HXb.out.trans (HB6.out.mono HXb.out.size))
                    obtain ⟨A6, c6, rfl, hc6⟩ := hown6.form
                    clear hown6 hgrow hga hfr HO HOA HOU HOT HNQ HBR HBE HGE HQL hsz e0 HT HBL HBW HXr HEL HWS
                    have HT7 : Hid (Texts wb3 w6 _ (nd' + (k + 1))) := HT6
                    cases ok
                    case false =>
                      have HB7 := HB6
                      go_wp2
                      refine ⟨?_, ?_⟩
                      · first
                          | exact ⟨k + 1, false, by omega, by go_num, rfl, HT7, HB7⟩
                          | exact ⟨_, _, _, _, _, _, _, _, _, _, _, _, _, _, _, _, _, _, _, _, _, _, _, _, _, _, _, _, _, _, _, _, _, _, _, _, _, _, _, _, _, _, ⟨k + 1, false, by omega, by go_num, rfl, HT7, HB7⟩, rfl⟩
                      · (simp [intOf]; try omega)
                    have z0 := cell_block HG6.out 0
                    have z1 := cell_block HG6.out 1
                    have z2 := cell_block HG6.out 2
                    simp only [List.getElem?_toArray, List.getElem?_cons_zero, List.getElem?_cons_succ] at z0 z1 z2
                    obtain ⟨f0, f1, f2, f3, f4, f5, f6⟩ := HC.out _ HX6.out
                    have HB7 := HB6
                    go_wp2_with fail
                    cases h1 : decide (0 ≤ mx ∧ mx ≤ 1)
                    case false =>
                      refine (in_at mx 0 1 false h1 w6).mono ?_
                      rintro e w7 ⟨rfl, rfl⟩
                      go_wp2
                      refine ⟨?_, ?_⟩
                      · first
                          | exact ⟨k + 1, false, by omega, by go_num, rfl, HT7, HB7⟩
                          | exact ⟨_, _, _, _, _, _, _, _, _, _, _, _, _, _, _, _, _, _, _, _, _, _, _, _, _, _, _, _, _, _, _, _, _, _, _, _, _, _, _, _, _, _, ⟨k + 1, false, by omega, by go_num, rfl, HT7, HB7⟩, rfl⟩
                      · (simp [intOf]; try omega)
                    refine (in_at mx 0 1 true h1 w6).mono ?_
                    rintro e w7 ⟨rfl, rfl⟩
                    clear h1
                    go_wp2_with fail
                    by_cases h2 : 0 ≤ my ∧ my ≤ (nd' : Int)
                    case neg =>
                      refine (in_at my 0 (nd' : Int) false (decide_eq_false h2) w6).mono ?_
                      rintro e w7 ⟨rfl, rfl⟩
                      go_wp2
                      refine ⟨?_, ?_⟩
                      · first
                          | exact ⟨k + 1, false, by omega, by go_num, rfl, HT7, HB7⟩
                          | exact ⟨_, _, _, _, _, _, _, _, _, _, _, _, _, _, _, _, _, _, _, _, _, _, _, _, _, _, _, _, _, _, _, _, _, _, _, _, _, _, _, _, _, _, ⟨k + 1, false, by omega, by go_num, rfl, HT7, HB7⟩, rfl⟩
                      · (simp [intOf]; try omega)
                    refine (in_at my 0 (nd' : Int) true (decide_eq_true h2) w6).mono ?_
                    rintro e w7 ⟨rfl, rfl⟩
                    obtain ⟨p, rfl⟩ := Int.eq_ofNat_of_zero_le h2.1
                    obtain ⟨g', off', c', e, _, _, hd⟩ := (HF.out.below HX6.out).doms
                    injection e with e1 _ e3
                    injection e1 with e1
                    injection e1 with e1 e2 _
                    subst e1 e2 e3
                    obtain ⟨nm2, lvp, pa2, up2, hdom2, _, _⟩ := hd.each p (by omega)
                    have l5 := hdom2.c1
                    have hp0 : (0 : Int) ≤ (p : Int) := by omega
                    have hp1 : (p : Int) < (nd' : Int) + 1 := by omega
                    clear hd hdom2 h2
                    by_cases h4 : lvp = 4
                    · subst h4
                      go_wp2
                      refine ⟨?_, ?_⟩
                      · first
                          | exact ⟨k + 1, true, by omega, by go_num, rfl, HT7, HB7⟩
                          | exact ⟨_, _, _, _, _, _, _, _, _, _, _, _, _, _, _, _, _, _, _, _, _, _, _, _, _, _, _, _, _, _, _, _, _, _, _, _, _, _, _, _, _, _, ⟨k + 1, true, by omega, by go_num, rfl, HT7, HB7⟩, rfl⟩
                      · (simp [intOf]; try omega)
                    · have h5 : (lvp == 4) = false := by rw [beq_eq_false_iff_ne]; exact h4
                      go_wp2
                      refine ⟨?_, ?_⟩
                      · first
                          | exact ⟨k + 1, false, by omega, by go_num, rfl, HT7, HB7⟩
                          | exact ⟨_, _, _, _, _, _, _, _, _, _, _, _, _, _, _, _, _, _, _, _, _, _, _, _, _, _, _, _, _, _, _, _, _, _, _, _, _, _, _, _, _, _, ⟨k + 1, false, by omega, by go_num, rfl, HT7, HB7⟩, rfl⟩
                      · (simp [intOf]; try omega)
                · obtain rfl : nr = k := by omega
                  have hst := HT.out.strs (by omega)
                  obtain ⟨As3, cs3, rfl, hcs3, hcm3, _⟩ := id hst
                  have HL3 := hid hst
                  have HXr := hid (HXb.out.trans (HBL.out.mono HXb.out.size))
                  replace HL1 := hid (HL1.out.below HBL.out)
                  replace HL2 := hid (HL2.out.below HBL.out)
                  obtain ⟨wb5, hwb⟩ : ∃ x, x = wr := ⟨_, rfl⟩
                  subst hwb
                  clear HT HBL hst HXb
                  have HXb := HXr
                  clear HXr
                  obtain ⟨b0, b1, b2, b3, b4, b5, b6⟩ := HC.out _ HXb.out
                  clear b0 b1 b2 b3 b4 b6
                  go_wp2_with fail
                  go_loopw [6, 8, 176] (fun s b i wr => ∃ (k : Nat) (ok : Bool), k ≤ np ∧ i = .int .i64 k ∧ b = .bool ok ∧ Hid (Texts wb5 wr s k) ∧ Hid (Below wb5.heap.size wb5 wr)) (fun _ _ i _ => (np - intOf i).toNat)
                  case atStart => exact ⟨0, ok, Nat.zero_le _, rfl, rfl, hid (Texts.nil _ _), hid (Below.refl _ _)⟩
                  case round =>
                    obtain ⟨k, ok, hk, rfl, rfl, HT, HBL⟩ := hrel
                    by_cases hlt : k < np
                    · as_aux_lemma =>
                        have HXr := hid (HXb.out.trans (HBL.out.mono HXb.out.size))
                        obtain ⟨A', c', e, _, _, hrows⟩ := HF.out.pols
                        obtain ⟨g, off, rfl, hgl, hrow⟩ := hrows (by omega)
                        injection e with e1 _ e3
                        subst e1 e3
                        obtain ⟨nm, K, M, Q, s0, s1, s2, s3, s4, pm, pr, u1, v1, u2, v2, hcs, hpol⟩ := hrow k hlt
                        obtain ⟨npm, Apm, cpm, rfl, _⟩ := hpol.models
                        obtain ⟨npr, Apr, cpr, rfl, _⟩ := hpol.repair
                        obtain ⟨_, _, hx1, hx2, _⟩ := hpol.target
                        obtain ⟨_, _, hx3, hx4, _⟩ := hpol.horizon
                        obtain ⟨U1, k1, d1, rfl⟩ := hx1.sl
                        obtain ⟨V1, k2, d2, rfl⟩ := hx2.sl
                        obtain ⟨U2, k3, d3, rfl⟩ := hx3.sl
                        obtain ⟨V2, k4, d4, rfl⟩ := hx4.sl
                        have HPL := hid hpol
                        clear hpol hx1 hx2 hx3 hx4
                        have y0 : wr.cell? ⟨g, off + k * 17, none⟩ = some (.string nm) := (HXr.out.cell (p := ⟨g, off + k * 17 + 0, none⟩) hgl).trans (hcs 0 _ rfl)
                        have y1 : wr.cell? ⟨g, off + k * 17 + 1, none⟩ = some (.int .i64 K) := (HXr.out.cell (p := ⟨g, off + k * 17 + 1, none⟩) hgl).trans (hcs 1 _ rfl)
                        have y2 : wr.cell? ⟨g, off + k * 17 + 2, none⟩ = some (.int .i64 M) := (HXr.out.cell (p := ⟨g, off + k * 17 + 2, none⟩) hgl).trans (hcs 2 _ rfl)
                        have y3 : wr.cell? ⟨g, off + k * 17 + 3, none⟩ = some (.int .i64 Q) := (HXr.out.cell (p := ⟨g, off + k * 17 + 3, none⟩) hgl).trans (hcs 3 _ rfl)
                        have y4 : wr.cell? ⟨g, off + k * 17 + 4, none⟩ = some (.int .i64 s0) := (HXr.out.cell (p := ⟨g, off + k * 17 + 4, none⟩) hgl).trans (hcs 4 _ rfl)
                        have y5 : wr.cell? ⟨g, off + k * 17 + 5, none⟩ = some (.int .i64 s1) := (HXr.out.cell (p := ⟨g, off + k * 17 + 5, none⟩) hgl).trans (hcs 5 _ rfl)
                        have y6 : wr.cell? ⟨g, off + k * 17 + 6, none⟩ = some (.int .i64 s2) := (HXr.out.cell (p := ⟨g, off + k * 17 + 6, none⟩) hgl).trans (hcs 6 _ rfl)
                        have y7 : wr.cell? ⟨g, off + k * 17 + 7, none⟩ = some (.int .i64 s3) := (HXr.out.cell (p := ⟨g, off + k * 17 + 7, none⟩) hgl).trans (hcs 7 _ rfl)
                        have y8 : wr.cell? ⟨g, off + k * 17 + 8, none⟩ = some (.int .i64 s4) := (HXr.out.cell (p := ⟨g, off + k * 17 + 8, none⟩) hgl).trans (hcs 8 _ rfl)
                        have y9 : wr.cell? ⟨g, off + k * 17 + 9, none⟩ = some (.slice Apm npm cpm) := (HXr.out.cell (p := ⟨g, off + k * 17 + 9, none⟩) hgl).trans (hcs 9 _ rfl)
                        have y10 : wr.cell? ⟨g, off + k * 17 + 10, none⟩ = some (.slice Apr npr cpr) := (HXr.out.cell (p := ⟨g, off + k * 17 + 10, none⟩) hgl).trans (hcs 10 _ rfl)
                        have y11 : wr.cell? ⟨g, off + k * 17 + 11, none⟩ = some (.bool false) := (HXr.out.cell (p := ⟨g, off + k * 17 + 11, none⟩) hgl).trans (hcs 11 _ rfl)
                        have y12 : wr.cell? ⟨g, off + k * 17 + 12, none⟩ = some (.slice U1 k1 d1) := (HXr.out.cell (p := ⟨g, off + k * 17 + 12, none⟩) hgl).trans (hcs 12 _ rfl)
                        have y13 : wr.cell? ⟨g, off + k * 17 + 13, none⟩ = some (.slice V1 k2 d2) := (HXr.out.cell (p := ⟨g, off + k * 17 + 13, none⟩) hgl).trans (hcs 13 _ rfl)
                        have y14 : wr.cell? ⟨g, off + k * 17 + 14, none⟩ = some (.bool false) := (HXr.out.cell (p := ⟨g, off + k * 17 + 14, none⟩) hgl).trans (hcs 14 _ rfl)
                        have y15 : wr.cell? ⟨g, off + k * 17 + 15, none⟩ = some (.slice U2 k3 d3) := (HXr.out.cell (p := ⟨g, off + k * 17 + 15, none⟩) hgl).trans (hcs 15 _ rfl)
                        have y16 : wr.cell? ⟨g, off + k * 17 + 16, none⟩ = some (.slice V2 k4 d4) := (HXr.out.cell (p := ⟨g, off + k * 17 + 16, none⟩) hgl).trans (hcs 16 _ rfl)
                        clear hcs hrow hrows
                        have hbe := (Below.refl wr.heap.size wr).alloc (Nat.le_refl _) (.cells #[.string nm, .int .i64 K, .int .i64 M, .int .i64 Q, .int .i64 s0, .int .i64 s1, .int .i64 s2, .int .i64 s3, .int .i64 s4, .slice Apm npm cpm, .slice Apr npr cpr, .bool false, .slice U1 k1 d1, .slice V1 k2 d2, .bool false, .slice U2 k3 d3, .slice V2 k4 d4] 50)
                        have hge := heap_alloc_new wr (.cells #[.string nm, .int .i64 K, .int .i64 M, .int .i64 Q, .int .i64 s0, .int .i64 s1, .int .i64 s2, .int .i64 s3, .int .i64 s4, .slice Apm npm cpm, .slice Apr npr cpr, .bool false, .slice U1 k1 d1, .slice V1 k2 d2, .bool false, .slice U2 k3 d3, .slice V2 k4 d4] 50)
                        obtain ⟨o, xs, ho, hoa, hou, hot⟩ := HT.out
                        obtain ⟨As, cs, rfl, hcs⟩ := ho.form
                        have HO := hid (ho.below hbe)
                        have HOA := hid hoa
                        have HOU := hid hou
                        have HOT := hid hot
                        have e0 := cell_block hge 0
                        simp only [List.getElem?_toArray, List.getElem?_cons_zero] at e0
                        have HGE := hid hge
                        have HBE := hid hbe
                        clear ho hoa hou hot hge hbe
                        go_upto_region 31 with fail
                        as_aux_lemma =>
                          clear y0 y1 y2 y3 y4 y5 y6 y7 y8 y9 y10 y11 y12 y13 y14 y15 y16
                          generalize wr.alloc (.cells #[.string nm, .int .i64 K, .int .i64 M, .int .i64 Q, .int .i64 s0, .int .i64 s1, .int .i64 s2, .int .i64 s3, .int .i64 s4, .slice Apm npm cpm, .slice Apr npr cpr, .bool false, .slice U1 k1 d1, .slice V1 k2 d2, .bool false, .slice U2 k3 d3, .slice V2 k4 d4] 50) = we at *
                          have HEL := hid (show we.heap.size = we.heap.size from rfl)
                          have HQL := hid (Array.getElem?_eq_some_iff.1 HGE.out).1
                          have HNQ := hid (show ¬ o wr.heap.size from fun e => by have := HOU.out _ e; omega)
                          have HBR := hid (show Below wr.heap.size wr we from HBE.out)
                          have HWS := hid HBL.out.size
                          generalize hq : wr.heap.size = q at *
                          have HQ := hid hq
                          clear hq
                          go_wp2_with (at_builtin; refine wpList_append_sl (by rfl) (.tmp 180) (.tmp 183) 104 (by rfl) 9 i0 _ 1 16 Try.underlying104 hi0 hz0 hz1 hz2 rfl (by decide) o _ (.slice (some ⟨we.heap.size, 0, none⟩) 1 1) k 1 xs [.string nm] (by rfl) (by rfl) (HO.out.below ((Below.refl _ _).alloc (Nat.le_refl _) _)) ⟨rfl, .inr ⟨_, 1, rfl, World.news_of_block (cs := #[.string nm]) (fr := (0, 0)) (heap_alloc_new we _)⟩⟩ (by intro u hu; simp at hu; subst hu; rfl) (by unfold maxLen; omega) (by omega) ?_)
                          as_aux_lemma =>
                            intro v6 w6 hown6 hgrow
                            have hga := (Fr.refl o we).alloc (.cells #[.string nm] 9)
                            have hfr : Fr o we w6 := hga.trans (fun _ e => .inl e) hgrow
                            have HG6 := hid ((hfr.block q HQL.out HNQ.out).trans HGE.out)
                            have HBW : Hid (Below wb5.heap.size wb5 we) := hid (HBL.out.trans (HBR.out.mono (HWS.out)))
                            have hsz : wb5.heap.size ≤ we.heap.size := HBW.out.size
                            have HB6 := hid (below_of_fr HBW.out hfr HOA.out hsz)
                            have HT6 := hid (show Texts wb5 w6 v6 (k + 1) from ⟨_, _, hown6, hgrow.mv.above HOA.out (by simp; omega), hgrow.under (HOU.out.mv (by simp; have := HBR.out.size; omega)), fun u hu => by
                              rw [List.mem_append] at hu
                              rcases hu with hu | hu
                              · exact HOT.out u hu
                              · simp at hu; exact ⟨nm, hu⟩⟩)
                            have HX6 := hid (HXb.out.trans (HB6.out.mono HXb.out.size))
                            obtain ⟨A6, c6, rfl, hc6⟩ := hown6.form
                            clear hown6 hgrow hga hfr HO HOA HOU HOT HNQ HBR HBE HGE HQL hsz e0 HT HBL HBW HXr HEL HWS
                            have HT7 : Hid (Texts wb5 w6 _ (k + 1)) := HT6
                            cases ok
                            case false =>
                              have HB7 := HB6
                              go_wp2
                              refine ⟨?_, ?_⟩
                              · first
                                  | exact ⟨k + 1, false, by omega, by go_num, rfl, HT7, HB7⟩
                                  | exact ⟨_, _, _, _, _, _, _, _, _, _, _, _, _, _, _, _, _, _, _, _, _, ⟨k + 1, false, by omega, by go_num, rfl, HT7, HB7⟩, rfl⟩
                              · (simp [intOf]; try omega)
                            have z0 := cell_block HG6.out 0
                            have z1 := cell_block HG6.out 1
                            have z2 := cell_block HG6.out 2
                            have z3 := cell_block HG6.out 3
                            have z4 := cell_block HG6.out 4
                            have z5 := cell_block HG6.out 5
                            have z6 := cell_block HG6.out 6
                            have z7 := cell_block HG6.out 7
                            have z8 := cell_block HG6.out 8
                            have z9 := cell_block HG6.out 9
                            have z10 := cell_block HG6.out 10
                            have z11 := cell_block HG6.out 11
                            have z12 := cell_block HG6.out 12
                            have z13 := cell_block HG6.out 13
                            have z14 := cell_block HG6.out 14
                            have z15 := cell_block HG6.out 15
                            have z16 := cell_block HG6.out 16
                            simp only [List.getElem?_toArray, List.getElem?_cons_zero, List.getElem?_cons_succ] at z0 z1 z2 z3 z4 z5 z6 z7 z8 z9 z10 z11 z12 z13 z14 z15 z16
                            obtain ⟨f0, f1, f2, f3, f4, f5, f6⟩ := HC.out _ HX6.out
                            have HPL6 := hid (HPL.out.below HX6.out)
                            as_aux_lemma =>
                              go_wp2_with fail
                              refine (policy_any HPL6.out).mono ?_
                              rintro e w7 ⟨c, rfl, hb7⟩
                              have HT8 := hid (HT7.out.below hb7)
                              have HB7 := hid (HB6.out.trans (hb7.mono HB6.out.size))
                              clear hb7 HT7 HB6 z0 z1 z2 z3 z4 z5 z6 z7 z8 z9 z10 z11 z12 z13 z14 z15 z16 f0 f1 f2 f3 f4 f5 f6
                              have HT7 := HT8
                              as_aux_lemma =>
                                go_wp2
                                refine ⟨?_, ?_⟩
                                · first
                                    | exact ⟨k + 1, c, by omega, by go_num, rfl, HT7, HB7⟩
                                    | exact ⟨_, _, _, _, _, _, _, _, _, _, _, _, _, _, _, _, _, _, _, _, _, ⟨k + 1, c, by omega, by go_num, rfl, HT7, HB7⟩, rfl⟩
                                · (simp [intOf]; try omega)
                    · obtain rfl : np = k := by omega
                      have hst := HT.out.strs (by omega)
                      obtain ⟨As4, cs4, rfl, hcs4, hcm4, _⟩ := id hst
                      have HL4 := hid hst
                      have HXr := hid (HXb.out.trans (HBL.out.mono HXb.out.size))
                      replace HL1 := hid (HL1.out.below HBL.out)
                      replace HL2 := hid (HL2.out.below HBL.out)
                      replace HL3 := hid (HL3.out.below HBL.out)
                      obtain ⟨wb6, hwb⟩ : ∃ x, x = wr := ⟨_, rfl⟩
                      subst hwb
                      clear HT HBL hst HXb
                      have HXb := HXr
                      clear HXr
                      obtain ⟨b0, b1, b2, b3, b4, b5, b6⟩ := HC.out _ HXb.out
                      clear b0 b1 b2 b3 b4 b5
                      go_wp2_with fail
                      go_loopw [7, 8, 197] (fun s b i wr => ∃ (k : Nat) (ok : Bool), k ≤ nv ∧ i = .int .i64 k ∧ b = .bool ok ∧ Hid (Texts wb6 wr s k) ∧ Hid (Below wb6.heap.size wb6 wr)) (fun _ _ i _ => (nv - intOf i).toNat)
                      case atStart => exact ⟨0, ok, Nat.zero_le _, rfl, rfl, hid (Texts.nil _ _), hid (Below.refl _ _)⟩
                      case round =>
                        obtain ⟨k, ok, hk, rfl, rfl, HT, HBL⟩ := hrel
                        by_cases hlt : k < nv
                        · as_aux_lemma =>
                            have HXr := hid (HXb.out.trans (HBL.out.mono HXb.out.size))
                            obtain ⟨A', c', e, _, _, hrows⟩ := HF.out.vols
                            obtain ⟨g, off, rfl, hgl, hrow⟩ := hrows (by omega)
                            injection e with e1 _ e3
                            subst e1 e3
                            obtain ⟨nm, mx, hcs⟩ := hrow k hlt
                            have y0 : wr.cell? ⟨g, off + k * 2, none⟩ = some (.string nm) := (HXr.out.cell (p := ⟨g, off + k * 2 + 0, none⟩) hgl).trans (hcs 0 _ rfl)
                            have y1 : wr.cell? ⟨g, off + k * 2 + 1, none⟩ = some (.int .i64 mx) := (HXr.out.cell (p := ⟨g, off + k * 2 + 1, none⟩) hgl).trans (hcs 1 _ rfl)
                            clear hcs hrow hrows
                            have hbe := (Below.refl wr.heap.size wr).alloc (Nat.le_refl _) (.cells #[.string nm, .int .i64 mx] 52)
                            have hge := heap_alloc_new wr (.cells #[.string nm, .int .i64 mx] 52)
                            obtain ⟨o, xs, ho, hoa, hou, hot⟩ := HT.out
                            obtain ⟨As, cs, rfl, hcs⟩ := ho.form
                            have HO := hid (ho.below hbe)
                            have HOA := hid hoa
                            have HOU := hid hou
                            have HOT := hid hot
                            have e0 := cell_block hge 0
                            simp only [List.getElem?_toArray, List.getElem?_cons_zero] at e0
                            have HGE := hid hge
                            have HBE := hid hbe
                            clear ho hoa hou hot hge hbe
                            go_upto_region 37 with fail
                            clear y0 y1
                            generalize wr.alloc (.cells #[.string nm, .int .i64 mx] 52) = we at *
                            have HEL := hid (show we.heap.size = we.heap.size from rfl)
                            have HQL := hid (Array.getElem?_eq_some_iff.1 HGE.out).1
                            have HNQ := hid (show ¬ o wr.heap.size from fun e => by have := HOU.out _ e; omega)
                            have HBR := hid (show Below wr.heap.size wr we from HBE.out)
                            have HWS := hid HBL.out.size
                            generalize hq : wr.heap.size = q at *
                            have HQ := hid hq
                            clear hq
                            go_wp2_with (at_builtin; refine wpList_append_sl (by rfl) (.tmp 201) (.tmp 204) 104 (by rfl) 9 i0 _ 1 16 Try.underlying104 hi0 hz0 hz1 hz2 rfl (by decide) o _ (.slice (some ⟨we.heap.size, 0, none⟩) 1 1) k 1 xs [.string nm] (by rfl) (by rfl) (HO.out.below ((Below.refl _ _).alloc (Nat.le_refl _) _)) ⟨rfl, .inr ⟨_, 1, rfl, World.news_of_block (cs := #[.string nm]) (fr := (0, 0)) (heap_alloc_new we _)⟩⟩ (by intro u hu; simp at hu; subst hu; rfl) (by unfold maxLen; omega) (by omega) ?_)
                            intro v6 w6 hown6 hgrow
                            have hga := (Fr.refl o we).alloc (.cells #[.string nm] 9)
                            have hfr : Fr o we w6 := hga.trans (fun _ e => .inl e) hgrow
                            have HG6 := hid ((hfr.block q HQL.out HNQ.out).trans HGE.out)
                            have HBW : Hid (Below wb6.heap.size wb6 we) := hid (HBL.out.trans (HBR.out.mono (HWS.out)))
                            have hsz : wb6.heap.size ≤ we.heap.size := HBW.out.size
                            have HB6 := hid (below_of_fr HBW.out hfr HOA.out hsz)
                            have HT6 := hid (show Texts wb6 w6 v6 (k + 1) from ⟨_, _, hown6, hgrow.mv.above HOA.out (by simp; omega), hgrow.under (HOU.out.mv (by simp; have := HBR.out.size; omega)), fun u hu => by
                              rw [List.mem_append] at hu
                              rcases hu with hu | hu
                              · exact HOT.out u hu
                              · simp at hu; exact ⟨nm, hu⟩⟩)
                            have HX6 := hid (HXb.out.trans (HB6.out.mono HXb.out.size))
                            obtain ⟨A6, c6, rfl, hc6⟩ := hown6.form
                            clear hown6 hgrow hga hfr HO HOA HOU HOT HNQ HBR HBE HGE HQL hsz e0 HT HBL HBW HXr HEL HWS
                            have HT7 : Hid (Texts wb6 w6 _ (k + 1)) := HT6
                            cases ok
                            case false =>
                              have HB7 := HB6
                              go_wp2
                              refine ⟨?_, ?_⟩
                              · first
                                  | exact ⟨k + 1, false, by omega, by go_num, rfl, HT7, HB7⟩
                                  | exact ⟨_, _, _, _, _, _, _, _, _, _, _, _, _, _, _, _, _, _, _, _, _, _, _, ⟨k + 1, false, by omega, by go_num, rfl, HT7, HB7⟩, rfl⟩
                              · (simp [intOf]; try omega)
                            have z0 := cell_block HG6.out 0
                            have z1 := cell_block HG6.out 1
                            simp only [List.getElem?_toArray, List.getElem?_cons_zero, List.getElem?_cons_succ] at z0 z1
                            obtain ⟨f0, f1, f2, f3, f4, f5, f6⟩ := HC.out _ HX6.out
                            have HB7 := HB6
                            go_wp2_with fail
                            refine (in_bool mx 0 ((np : Int) - 1) w6).mono ?_
                            rintro e w7 ⟨⟨c, rfl, _⟩, rfl⟩
                            go_wp2
                            refine ⟨?_, ?_⟩
                            · first
                                | exact ⟨k + 1, c, by omega, by go_num, rfl, HT7, HB7⟩
                                | exact ⟨_, _, _, _, _, _, _, _, _, _, _, _, _, _, _, _, _, _, _, _, _, _, _, ⟨k + 1, c, by omega, by go_num, rfl, HT7, HB7⟩, rfl⟩
                            · (simp [intOf]; try omega)
                        · obtain rfl : nv = k := by omega
                          have hst := HT.out.strs (by omega)
                          obtain ⟨As5, cs5, rfl, hcs5, hcm5, _⟩ := id hst
                          have HL5 := hid hst
                          have HXr := hid (HXb.out.trans (HBL.out.mono HXb.out.size))
                          replace HL1 := hid (HL1.out.below HBL.out)
                          replace HL2 := hid (HL2.out.below HBL.out)
                          replace HL3 := hid (HL3.out.below HBL.out)
                          replace HL4 := hid (HL4.out.below HBL.out)
                          obtain ⟨wb7, hwb⟩ : ∃ x, x = wr := ⟨_, rfl⟩
                          subst hwb
                          clear HT HBL hst HXb
                          have HXb := HXr
                          clear HXr
                          obtain ⟨b0, b1, b2, b3, b4, b5, b6⟩ := HC.out _ HXb.out
                          clear b0 b1 b2 b3 b4 b5 b6
                          have HWF := hid (HB.out.trans (HXb.out.mono HB.out.size))
                          cases ok
                          · go_wp2
                            go_ret
                            exact ⟨_, rfl, HWF.out⟩
                          go_wp2_with fail
                          refine (unique_any HL1.out).mono ?_
                          rintro e wq ⟨b, rfl, hbq⟩
                          replace HL2 := hid (HL2.out.below hbq)
                          replace HL3 := hid (HL3.out.below hbq)
                          replace HL4 := hid (HL4.out.below hbq)
                          replace HL5 := hid (HL5.out.below hbq)
                          replace HWF := hid (HWF.out.trans (hbq.mono HWF.out.size))
                          clear hbq
                          cases b
                          · go_wp2
                            go_ret
                            exact ⟨_, rfl, HWF.out⟩
                          go_wp2_with fail
                          refine (unique_any HL2.out).mono ?_
                          rintro e wq ⟨b, rfl, hbq⟩
                          replace HL3 := hid (HL3.out.below hbq)
                          replace HL4 := hid (HL4.out.below hbq)
                          replace HL5 := hid (HL5.out.below hbq)
                          replace HWF := hid (HWF.out.trans (hbq.mono HWF.out.size))
                          clear hbq
                          cases b
                          · go_wp2
                            go_ret
                            exact ⟨_, rfl, HWF.out⟩
                          go_wp2_with fail
                          refine (unique_any HL3.out).mono ?_
                          rintro e wq ⟨b, rfl, hbq⟩
                          replace HL4 := hid (HL4.out.below hbq)
                          replace HL5 := hid (HL5.out.below hbq)
                          replace HWF := hid (HWF.out.trans (hbq.mono HWF.out.size))
                          clear hbq
                          cases b
                          · go_wp2
                            go_ret
                            exact ⟨_, rfl, HWF.out⟩
                          go_wp2_with fail
                          refine (unique_any HL4.out).mono ?_
                          rintro e wq ⟨b, rfl, hbq⟩
                          replace HL5 := hid (HL5.out.below hbq)
                          replace HWF := hid (HWF.out.trans (hbq.mono HWF.out.size))
                          clear hbq
                          cases b
                          · go_wp2
                            go_ret
                            exact ⟨_, rfl, HWF.out⟩
                          go_wp2_with fail
                          refine (unique_any HL5.out).mono ?_
                          rintro e wq ⟨b, rfl, hbq⟩
                          replace HWF := hid (HWF.out.trans (hbq.mono HWF.out.size))
                          clear hbq
                          cases b
                          · go_wp2
                            go_ret
                            exact ⟨_, rfl, HWF.out⟩
                          go_wp2
                          go_ret
                          exact ⟨_, rfl, HWF.out⟩
end Go.Proofs.Ytpoaadjhaknhdaa
