/- rollout: Waves. -/
import Derived.Test.YtpoaadjhaknhdaaW29
namespace Go.Proofs.Ytpoaadjhaknhdaa
open Go Go.RowKit Go.Sort Go.Deep

def WavesPost (rows : List (List Int)) (KM : List (Nat × Nat)) (r : Int) (w : World) (e : Ending) (w' : World) : Prop := ∃ (v : Value) (L : List (List Int)) (k : Int), e = .returned (.tuple #[v, .int .i64 k]) ∧ Below w.heap.size w w' ∧ (∃ go gs, WavesAt w w' v L go gs) ∧ L.length ≤ 100 ∧ ∀ l ∈ L, l.length ≤ 100 ∧ FitsAll rows l KM r
/-- The waves so far. -/
structure Roll (rows : List (List Int)) (KM : List (Nat × Nat)) (r : Int) (w1 w : World) (v : Value) (p : Nat) (L : List (List Int)) (go : Nat) (gs : Nat → Nat) : Prop where
  waves : WavesAt w1 w v L go gs
  fits : ∀ l ∈ L, FitsAll rows l KM r
  short : ∀ l ∈ L, l.length ≤ p
  few : L.length ≤ p
  nilv : L.length = 0 → v = .slice none 0 0
theorem WavesAt.base {w0 w1 w : World} {v : Value} {L : List (List Int)} {go : Nat} {gs : Nat → Nat} (h : WavesAt w1 w v L go gs) (hb : Below w0.heap.size w0 w1) : WavesAt w0 w v L go gs :=
  ⟨h.out, h.ne, h.ap, fun j hj => ⟨Nat.le_trans hb.size (h.ab j hj).1, (h.ab j hj).2⟩, fun h0 => ⟨Nat.le_trans hb.size (h.abo h0).1, (h.abo h0).2⟩, hb.trans (h.below.mono hb.size)⟩
theorem new_at {B : Nat} {w W : World} (_ : Below B w W) (o : Obj) : (W.alloc o).heap[W.heap.size]? = some o := heap_alloc_new W o
theorem WavesAt.at_ {w0 w : World} {A : Option Addr} {c : Nat} {L : List (List Int)} {go : Nat} {gs : Nat → Nat} (h : WavesAt w0 w (.slice A L.length c) L go gs) (j : Nat) (hj : j < L.length) : ∃ off gu ou cu, A = some ⟨go, off, none⟩ ∧ go < w.heap.size ∧ w.cell? ⟨go, off + j, none⟩ = some (.slice (some ⟨gu, ou, none⟩) L[j].length cu) ∧ w.frozen? ⟨go, off + j, none⟩ = false ∧ OwnSl w (fun k => k = gs j) 1 (.slice (some ⟨gu, ou, none⟩) L[j].length cu) L[j].length (intVals L[j]) ∧ L.length ≤ c ∧ c ≤ maxLen := by
  obtain ⟨us, h1, h2⟩ := h.out
  obtain ⟨u, hu, ho, hp⟩ := h2 j hj
  obtain ⟨g, off, cap, e, hg, hgl, hnc, hcm, hx, hs⟩ := h1.some_ (by omega)
  injection e with e1 e2 e3
  subst e1 e3 hg
  obtain ⟨gu, ou, cu, rfl, _⟩ := ho.some_ hp
  exact ⟨off, gu, ou, cu, rfl, hgl, hx j _ hu, (hs j (by omega)).2, ho, hnc, hcm⟩
theorem Roll.add1 {rows : List (List Int)} {KM : List (Nat × Nat)} {r : Int} {w1 w w' : World} {v v' : Value} {p : Nat} {L : List (List Int)} {go go' : Nat} {gs gs' : Nat → Nat} {i : Nat} {d : Int} (h : Roll rows KM r w1 w v p L go gs) (hi : i < L.length) (hw : WavesAt w1 w' v' (L.set i (L[i] ++ [d])) go' gs') (hf : FitsAll rows (L[i] ++ [d]) KM r) : Roll rows KM r w1 w' v' (p + 1) (L.set i (L[i] ++ [d])) go' gs' := by
  refine ⟨hw, fun l hl => ?_, fun l hl => ?_, by rw [List.length_set]; have := h.few; omega, fun e => by rw [List.length_set] at e; omega⟩
  · rcases List.mem_or_eq_of_mem_set hl with hl | rfl
    · exact h.fits l hl
    · exact hf
  · rcases List.mem_or_eq_of_mem_set hl with hl | rfl
    · exact Nat.le_succ_of_le (h.short l hl)
    · rw [List.length_append]; have := h.short _ (List.getElem_mem hi); simp; omega
theorem OwnSl.list_snoc {w : World} {o : Own} {v : Value} {l : List Int} {d : Int} (h : OwnSl w o 1 v (l.length + 1) (intVals l ++ [.int .i64 d])) : ListAt w v (l ++ [d]) := OwnSl.list (o := o) (l := l ++ [d]) (by simpa [intVals] using h)
theorem Roll.then {rows : List (List Int)} {KM : List (Nat × Nat)} {r : Int} {w1 w w' : World} {v : Value} {p : Nat} {L : List (List Int)} {go : Nat} {gs : Nat → Nat} (h : Roll rows KM r w1 w v p L go gs) (hb : Below w.heap.size w w') : Roll rows KM r w1 w' v p L go gs := ⟨h.waves.then hb, h.fits, h.short, h.few, h.nilv⟩
theorem Roll.add2 {rows : List (List Int)} {KM : List (Nat × Nat)} {r : Int} {w1 w w' : World} {v v' : Value} {p : Nat} {L : List (List Int)} {go go' : Nat} {gs gs' : Nat → Nat} {d : Int} (h : Roll rows KM r w1 w v p L go gs) (hw : WavesAt w1 w' v' (L ++ [[d]]) go' gs') (hf : FitsAll rows [d] KM r) : Roll rows KM r w1 w' v' (p + 1) (L ++ [[d]]) go' gs' := by
  refine ⟨hw, fun l hl => ?_, fun l hl => ?_, by rw [List.length_append]; have := h.few; simp; omega, fun e => by simp at e⟩
  · rcases List.mem_append.1 hl with hl | hl
    · exact h.fits l hl
    · simp at hl; subst hl; exact hf
  · rcases List.mem_append.1 hl with hl | hl
    · exact Nat.le_succ_of_le (h.short l hl)
    · simp at hl; subst hl; simp
/-- The new block that holds one number. -/
theorem own_one {w : World} {b : Nat} {d : Int} {t : TypeId} (hg : w.heap[b]? = some (.cells #[.int .i64 d] t)) : OwnSl w (fun k => k = b) 1 (.slice (some ⟨b, 0, none⟩) 1 1) 1 (intVals [d]) := by
  refine ⟨rfl, .inr ⟨b, 0, 1, rfl, rfl, (Array.getElem?_eq_some_iff.1 hg).1, Nat.le_refl _, by unfold maxLen; omega, fun j u hu => ?_, fun j hj => ?_⟩⟩
  · rw [Nat.zero_add]
    refine (cell_block hg j).trans ?_
    simpa [intVals] using hu
  · have h0 : j = 0 := by omega
    subst h0
    exact ⟨by rw [cell_block hg 0]; rfl, free_block hg 0⟩
theorem own_pos {w : World} {g n size : Nat} {v : Value} {xs : List Value} (h : OwnSl w (fun k => k = g) size v n xs) (hv : n = 0 → v = .slice none 0 0) : OwnSl w (fun k => k = g ∧ 0 < n) size v n xs := by
  rcases Nat.eq_zero_or_pos n with h0 | h0
  · subst h0
    obtain ⟨h1, _⟩ := h
    exact ⟨h1, .inl ⟨hv rfl, rfl⟩⟩
  · exact h.mono fun x e => ⟨e, h0⟩
theorem Roll.form {rows : List (List Int)} {KM : List (Nat × Nat)} {r : Int} {w1 w : World} {v : Value} {p : Nat} {L : List (List Int)} {go : Nat} {gs : Nat → Nat} (h : Roll rows KM r w1 w v p L go gs) : ∃ A c, v = .slice A L.length c ∧ L.length ≤ c := by
  obtain ⟨us, h1, _⟩ := h.waves.out
  exact h1.form
theorem Try.info_ints : (Try.prog.info? 22).map (fun i => (i.zero, i.size, i.bytes)) = some (some (.slice none 0 0), 1, 24) := by kernel_rfl
section
variable {w : World} {ex : Int} {vl vm vd vr vp vv vn : Value} {nl nd nr np nv : Nat} {KM : List (Nat × Nat)} {rows : List (List Int)}
set_option maxRecDepth 100000 in
set_option maxHeartbeats 6400000 in
theorem waves_any (h : FleetK w vl vm vd vr vp vv nl nd nr np nv KM) (hn : RowsAt w vn rows) (hlen : rows.length = KM.length) (hrl : ∀ q (h1 : q < rows.length) (h2 : q < KM.length), rows[q].length = KM[q].1 + KM[q].2) (hre : ∀ x ∈ rows, ∀ d ∈ x, -1 ≤ d ∧ d < (nr : Int)) (hrow : ∀ x ∈ rows, x.length ≤ 100) (r : Int) (hr : 0 ≤ r ∧ r ≤ 4) :
    Calls Try.prog 7 #[.agg (fleetArr ex vl vm vd vr vp vv), vn, .int .i64 r] w (WavesPost rows KM r w) := by
  obtain ⟨A0, c0, A1, c1, A2, c2, A3, c3, A4, c4, A5, c5, rfl, rfl, rfl, rfl, rfl, rfl⟩ := h.fleet.slices
  have hb1 := (Below.refl w.heap.size w).alloc (Nat.le_refl _) (.cells (fleetArr ex (.slice A0 nl c0) (.slice A1 2 c1) (.slice A2 nd c2) (.slice A3 nr c3) (.slice A4 np c4) (.slice A5 nv c5)) 33)
  have hg1 := heap_alloc_new w (.cells (fleetArr ex (.slice A0 nl c0) (.slice A1 2 c1) (.slice A2 nd c2) (.slice A3 nr c3) (.slice A4 np c4) (.slice A5 nv c5)) 33)
  have HK := hid (h.below hb1)
  have HN := hid (hn.below hb1)
  have HB := hid hb1
  have HG := hid hg1
  have HRL := hid hrl
  have HRE := hid hre
  have HRW := hid hrow
  have HLEN := hid hlen
  have HR := hid hr
  have hnr : nr ≤ 100 := h.fleet.sizes.2.2.2.1
  obtain ⟨i0, hi0, hz0, hz1, hz2⟩ := info_parts Try.info_int
  obtain ⟨j0, hj0, hjz0, hjz1, hjz2⟩ := info_parts Try.info_ints
  clear hb1 hg1 h hrl hre hlen hn hrow hr
  go_enter Try.func7, Try.ntmps7
  go_wp2_with fail
  go_step3
  go_wp2_with fail
  generalize w.alloc (.cells (fleetArr ex (.slice A0 nl c0) (.slice A1 2 c1) (.slice A2 nd c2) (.slice A3 nr c3) (.slice A4 np c4) (.slice A5 nv c5)) 33) = w1 at *
  refine (check_any HK.out HN.out HLEN.out HRL.out HRE.out HRW.out r HR.out).mono ?_
  rintro e w2 ⟨k, rfl, hch, hb2⟩
  have HW := hid hb2
  have HCK := hid hch
  clear hb2 hch
  by_cases hk : k = 0
  case neg =>
    have hk2 : (k == 0) = false := by rw [beq_eq_false_iff_ne]; exact hk
    clear hk
    go_wp2
    rw [Exit.noGoto_ret]
    go_ret2
    exact ⟨.slice none 0 0, [], k, rfl, HB.out.trans (HW.out.mono HB.out.size), ⟨0, fun _ => 0, (WavesAt.nil w 0 (fun _ => 0)).then (HB.out.trans (HW.out.mono HB.out.size))⟩, Nat.zero_le _, fun l hl => by cases hl⟩
  subst hk
  have HCH := hid (HCK.out rfl)
  clear HCK
  have ⟨f0, f1, f2, f3, f4, f5, f6⟩ := held_fleet HG.out HW.out
  go_wp2_with fail
  go_step3
  go_wp2_with fail
  clear f0 f1 f2 f3 f4 f5 f6
  go_loopw [9, 23] (fun o i wx => ∃ (p : Nat) (L : List (List Int)) (go : Nat) (gs : Nat → Nat), p ≤ nr ∧ i = .int .i64 p ∧ Hid (Roll rows KM r w1 wx o p L go gs)) (fun _ i _ => (nr - intOf i).toNat)
  case atStart => exact ⟨0, [], 0, fun _ => 0, Nat.zero_le _, rfl, hid ⟨(WavesAt.nil w1 0 (fun _ => 0)).then HW.out, (fun l hl => by cases hl), (fun l hl => by cases hl), Nat.le_refl _, fun _ => rfl⟩⟩
  case round =>
    obtain ⟨p, L, go, gs, hp, rfl, HRO⟩ := hrel
    obtain ⟨Ao, co, rfl, hoc⟩ := HRO.out.form
    have hLp := HRO.out.few
    by_cases hpl : p < nr
    · go_wp2_with fail
      go_loopw [28] (fun i wx => ∃ j : Nat, j ≤ L.length ∧ i = .int .i64 j ∧ Hid (Roll rows KM r w1 wx (.slice Ao L.length co) p L go gs)) (fun i _ => (L.length - intOf i).toNat)
      case atStart => exact ⟨0, Nat.zero_le _, rfl, HRO⟩
      case round =>
        clear HRO
        obtain ⟨j, hj, rfl, HRO⟩ := hrel
        by_cases hjl : j < L.length
        · obtain ⟨off, gu, ou, cu, rfl, hgo, hcu, hfu, hou, hLc, hcm⟩ := HRO.out.waves.at_ j hjl
          have HCU := hid hcu
          have HFU := hid hfu
          have HOU := hid hou
          have HGO := hid hgo
          have hl1 := HRO.out.short _ (List.getElem_mem hjl)
          obtain ⟨l, hl⟩ : ∃ l, L[j] = l := ⟨_, rfl⟩
          have HLE := hid hl
          rw [hl] at hl1 hcu HOU HCU
          obtain ⟨nl', hnl⟩ : ∃ n, l.length = n := ⟨_, rfl⟩
          have HNL := hid hnl
          rw [hnl] at hl1 hcu
          unfold maxLen at hcm
          clear hfu hou hgo hl hnl
          go_upto_region 11 with fail
          clear hcu
          have HLU := hid (show ListAt wr (.slice (some ⟨gu, ou, none⟩) nl' cu) l from by
            have := HOU.out
            rw [← HNL.out]
            exact OwnSl.list (l := l) this)
          have HOU' := HOU
          have HX0 := hid HRO.out.waves.below
          have HWv := hid ((Below.refl wr.heap.size wr).drew)
          have HS := hid (fun (W : World) (hW : Below wr.heap.size wr W) => held_fleet HG.out (HX0.out.trans (hW.mono HX0.out.size)))
          go_region_held3 (fun w' => w'.cell? ⟨w.heap.size, 0, none⟩ = some (.int .i64 ex) ∧ w'.cell? ⟨w.heap.size, 1, none⟩ = some (.slice A0 nl c0) ∧ w'.cell? ⟨w.heap.size, 2, none⟩ = some (.slice A1 2 c1) ∧ w'.cell? ⟨w.heap.size, 3, none⟩ = some (.slice A2 nd c2) ∧ w'.cell? ⟨w.heap.size, 4, none⟩ = some (.slice A3 nr c3) ∧ w'.cell? ⟨w.heap.size, 5, none⟩ = some (.slice A4 np c4) ∧ w'.cell? ⟨w.heap.size, 6, none⟩ = some (.slice A5 nv c5))
            (first | (with_reducible exact HS.out _ HWv.out) | (with_reducible exact HS.out _ (HWv.out.alloc HWv.out.size _)) | (with_reducible exact HS.out _ (((Below.refl wr.heap.size wr).alloc (Nat.le_refl _) _).drew)))
            ((first
              | (refine step_append_sl (by rfl) (.tmp 37) (.tmp 39) 22 (by rfl) 3 i0 _ 1 8 Try.underlying22 hi0 hz0 hz1 hz2 rfl (by decide) oc (.slice Ac l.length cc) _ l.length 1 (intVals l) [.int .i64 (p : Int)] (by rfl) (by rfl) (by first | exact HOC.out | exact HOC.out.below ((Below.refl _ _).alloc (Nat.le_refl _) _)) (by first | exact ⟨rfl, .inr ⟨_, 1, rfl, World.news_of_block (cs := #[.int .i64 (p : Int)]) (fr := (0, 0)) HD.out⟩⟩ | exact ⟨rfl, .inr ⟨_, 1, rfl, World.news_of_block (cs := #[.int .i64 (p : Int)]) (fr := (0, 0)) (heap_alloc_new _ _)⟩⟩) (by intro u hu; simp at hu; subst hu; rfl) (by have := HNL.out; unfold maxLen; omega) (by have := HNL.out; omega) ?_; intro v6 w6 hown6 hgrow; have HL6 := hid (OwnSl.list_snoc hown6); obtain ⟨A6, c6, rfl, _⟩ := hown6.form; (first | (replace HWv := hid (below_of_fr HWv.out hgrow HAC.out HWv.out.size)) | (replace HWv := hid (below_of_fr (HWv.out.alloc HWv.out.size _) hgrow HAC.out (HWv.out.alloc HWv.out.size _).size))); clear hown6 hgrow)
              | (go_at_call 19; first
                  | (refine (clone_any (HLU.out.below HWv.out) (by rw [HNL.out]; omega)).mono ?_; rintro e wx ⟨vc, oc, rfl, hoc, hac, hbc⟩; have HAC := hid (show Above wr.heap.size oc from fun k hk => Nat.le_trans HWv.out.size (hac k hk)); replace HWv := hid (HWv.out.trans (hbc.mono HWv.out.size)); have HOC := hid hoc; obtain ⟨Ac, cc, rfl, _⟩ := hoc.form; clear hoc hac hbc)
                  | (have HD := hid (show (wr.alloc (.cells #[.int .i64 (p : Int)] 3)).drew.heap[wr.heap.size]? = some (.cells #[.int .i64 (p : Int)] 3) from heap_alloc_new wr _); replace HWv := hid (((Below.refl wr.heap.size wr).alloc (Nat.le_refl _) (.cells #[.int .i64 (p : Int)] 3)).drew); refine (clone_any (HLU.out.below HWv.out) (by rw [HNL.out]; omega)).mono ?_; rintro e wx ⟨vc, oc, rfl, hoc, hac, hbc⟩; have HAC := hid (show Above wr.heap.size oc from fun k hk => Nat.le_trans HWv.out.size (hac k hk)); replace HD := hid ((hbc.block _ (Array.getElem?_eq_some_iff.1 HD.out).1).trans HD.out); replace HWv := hid (HWv.out.trans (hbc.mono HWv.out.size)); have HOC := hid hoc; obtain ⟨Ac, cc, rfl, _⟩ := hoc.form; clear hoc hac hbc))
              | (go_at_call 18; refine (fits_any (HK.out.vols.below (HX0.out.trans (HWv.out.mono HX0.out.size))) (HN.out.below (HX0.out.trans (HWv.out.mono HX0.out.size))) HLEN.out HRW.out HL6.out HR.out).mono ?_; rintro e wx ⟨bf, rfl, hfit, hb⟩; have HFT := hid hfit; replace HWv := hid (HWv.out.trans (hb.mono HWv.out.size)); clear hfit hb)))
          all_goals
            have HRW2 := hid (HRO.out.then HWv.out)
            have HOU2 := hid (HOU.out.below HWv.out)
            have HCU2 := hid ((HWv.out.cell (p := ⟨go, off + j, none⟩) HGO.out).trans HCU.out)
            have HFU2 := hid ((HWv.out.frozen (p := ⟨go, off + j, none⟩) HGO.out).trans HFU.out)
            have HGO2 := hid (Nat.lt_of_lt_of_le HGO.out HWv.out.size)
            clear HS HOU HOU' HCU HFU HGO HRO HLU
            cases bf
            case false =>
              go_wp2
              refine ⟨?_, ?_⟩
              · first
                  | exact ⟨j + 1, by omega, by go_num, HRW2⟩
                  | exact ⟨_, _, ⟨j + 1, by omega, by go_num, HRW2⟩, rfl⟩
              · (simp [intOf]; try omega)
            case true =>
              have HOU3 := hid (show OwnSl wx (fun k => k = gs j) 1 (.slice (some ⟨gu, ou, none⟩) nl' cu) nl' (intVals l) by
                have := HOU2.out
                rw [HNL.out] at this
                exact this)
              have hcj := HCU2.out
              rw [HNL.out] at hcj
              have HCJ := hid hcj
              have HNE := hid (show go ≠ gs j from fun e => HRW2.out.waves.ne j hjl e.symm)
              have HBX := hid ((Below.refl wx.heap.size wx).alloc (Nat.le_refl _) (.cells #[.int .i64 (p : Int)] 3))
              have HFJ := hid (HFT.out rfl)
              clear hcj HOU2 HCU2 HFT
              go_upto_region 12 with fail
              go_wp2_with (at_builtin; refine wpList_append_sl (by rfl) (.tmp 44) (.tmp 46) 22 (by rfl) 3 i0 _ 1 8 Try.underlying22 hi0 hz0 hz1 hz2 rfl (by decide) (fun k => k = gs j) _ (.slice (some ⟨wx.heap.size, 0, none⟩) 1 1) nl' 1 (intVals l) [.int .i64 (p : Int)] (by rfl) (by rfl) (HOU3.out.below HBX.out) ⟨rfl, .inr ⟨_, 1, rfl, World.news_of_block (cs := #[.int .i64 (p : Int)]) (fr := (0, 0)) (heap_alloc_new wx _)⟩⟩ (by intro u hu; simp at hu; subst hu; rfl) (by unfold maxLen; omega) (by omega) ?_)
              intro v6 w6 hown6 hgrow
              have hlt6 : go < (wx.alloc (.cells #[.int .i64 (p : Int)] 3)).heap.size := Nat.lt_of_lt_of_le HGO2.out HBX.out.size
              have hb6 := hgrow.block go hlt6 HNE.out
              have q0 : w6.cell? ⟨go, off + j, none⟩ = some (.slice (some ⟨gu, ou, none⟩) nl' cu) := (World.cell?_of_block hb6).trans ((HBX.out.cell (p := ⟨go, off + j, none⟩) HGO2.out).trans HCJ.out)
              have q1 : w6.frozen? ⟨go, off + j, none⟩ = false := (World.frozen?_of_block hb6).trans ((HBX.out.frozen (p := ⟨go, off + j, none⟩) HGO2.out).trans HFU2.out)
              have HR7 : Hid (∀ u, u = v6 → ∃ gi, WavesAt w1 (w6.setCell ⟨go, off + j, none⟩ u) (.slice (some ⟨go, off, none⟩) L.length co) (L.set j (L[j] ++ [(p : Int)])) go (upw gs j gi)) := hid (fun u e => (HRW2.out.waves.then HBX.out).grow (u' := u) (d := (p : Int)) hjl (by subst e; have h6 := hown6; rw [← HNL.out, ← HLE.out] at h6; exact h6) hgrow)
              have HF7 := hid (show FitsAll rows (L[j] ++ [(p : Int)]) KM r by rw [HLE.out]; exact HFJ.out)
              obtain ⟨A6, c6, rfl, _⟩ := hown6.form
              obtain ⟨gi, hw7⟩ := HR7.out _ rfl
              have HRO7 := hid (HRW2.out.add1 hjl hw7 HF7.out)
              clear hown6 hgrow hb6 hlt6 HR7 HF7 hw7 HBX HNE HFJ
              go_wp2
              refine ⟨?_, ?_⟩
              · exact ⟨p + 1, _, go, _, by omega, by go_num, HRO7⟩
              · (simp [intOf]; try omega)
        · obtain rfl : j = L.length := by omega
          have HBX := hid ((Below.refl wr.heap.size wr).alloc (Nat.le_refl _) (.cells #[.int .i64 (p : Int)] 3))
          have HBY := hid (HBX.out.alloc HBX.out.size (.cells #[.slice (some ⟨wr.heap.size, 0, none⟩) 1 1] 22))
          have HD := hid ((Below.heap_alloc (wr.alloc (.cells #[.int .i64 (p : Int)] 3)) (.cells #[.slice (some ⟨wr.heap.size, 0, none⟩) 1 1] 22) wr.heap.size (by simp)).trans (heap_alloc_new wr (.cells #[.int .i64 (p : Int)] 3)))
          have HE := hid (heap_alloc_new (wr.alloc (.cells #[.int .i64 (p : Int)] 3)) (.cells #[.slice (some ⟨wr.heap.size, 0, none⟩) 1 1] 22))
          obtain ⟨us, hus⟩ := HRO.out.waves.out
          have HUS := hid hus
          clear hus
          have hz : (wr.alloc (.cells #[.int .i64 (p : Int)] 3)).heap.size = wr.heap.size + 1 := by simp
          have HZ := hid hz
          clear hz
          have HFD := hid (HCH.out p hpl)
          go_upto_region 14 with fail
          go_wp2_with (at_builtin; refine wpList_append_sl (by rfl) (.tmp 50) (.tmp 53) 35 (by rfl) 22 j0 _ 1 24 Try.underlying35 hj0 hjz0 hjz1 hjz2 rfl (by decide) (fun k => k = go ∧ 0 < L.length) _ (.slice (some ⟨wr.heap.size + 1, 0, none⟩) 1 1) L.length 1 us [.slice (some ⟨wr.heap.size, 0, none⟩) 1 1] (by rfl) (by rfl) (own_pos (HUS.out.1.below HBY.out) HRO.out.nilv) ⟨rfl, .inr ⟨_, 1, rfl, World.news_of_block (cs := #[.slice (some ⟨wr.heap.size, 0, none⟩) 1 1]) (fr := (0, 0)) (by have := HE.out; rw [HZ.out] at this; exact this)⟩⟩ (by intro u hu; simp at hu; subst hu; rfl) (by unfold maxLen; omega) (by omega) ?_)
          intro v6 w6 hown6 hgrow
          obtain ⟨A6, c6, rfl, _⟩ := id hown6.form
          obtain ⟨go', hw7⟩ := HRO.out.waves.add HBY.out (own_one HD.out) (by simp) (Nat.le_refl _) (Array.getElem?_eq_some_iff.1 HD.out).1 HUS.out _ (fun k hk => hk) hown6 hgrow
          have HRO7 := hid (HRO.out.add2 hw7 HFD.out)
          clear hown6 hgrow hw7
          go_wp2
          refine ⟨?_, ?_⟩
          · exact ⟨p + 1, _, go', _, by omega, by go_num, HRO7⟩
          · (simp [intOf]; try omega)
    · obtain rfl : p = nr := by omega
      go_wp2
      rw [Exit.noGoto_ret]
      go_ret2
      exact ⟨_, L, 0, rfl, HB.out.trans (HRO.out.waves.below.mono HB.out.size), ⟨go, gs, HRO.out.waves.base HB.out⟩, by omega, fun l hl => ⟨Nat.le_trans (HRO.out.short l hl) (by omega), HRO.out.fits l hl⟩⟩
end
end Go.Proofs.Ytpoaadjhaknhdaa
