/- The maker: domain. -/
import Derived.Test.YtpoaadjhaknhdaaW35
namespace Go.Proofs.Ytpoaadjhaknhdaa
open Go Go.RowKit Go.Sort Go.Deep

theorem Try.info_dom : (Try.prog.info? 68).map (fun i => (i.zero, i.size, i.bytes)) = some (some (.agg #[.string ⟨#[]⟩, .int .i64 0, .int .i64 0, .int .i64 0, .bool false, .slice none 0 0, .slice none 0 0]), 7, 96) := by kernel_rfl
theorem frac_01 (w : World) : Calls Try.prog 12 #[.int .i64 0, .int .i64 1] w fun e w' => FrOut w w' e := frac_any 0 1 (by omega) (by omega) (by omega) (.inl rfl) w
/-- What the numbers of a new fraction are, whatever a set of older blocks becomes. -/
def Sup2 (w0 w : World) (u v : Value) (a b : Nat) : Prop := ∀ M, Under w0 M → Sup M w fun w' => One w' u a ∧ One w' v b
theorem FrOut.sup {w w' : World} {e : Ending} (h : FrOut w w' e) : ∃ u v a b, e = .returned (frAgg false u v) ∧ One w' u a ∧ One w' v b ∧ 0 < b ∧ Sup2 w w' u v a b ∧ Below w.heap.size w w' := by
  obtain ⟨u, v, a, b, e, hu, hv, hb0, hfu, hfv, hb⟩ := h
  exact ⟨u, v, a, b, e, hu, hv, hb0, fun M hM w2 h2 => ⟨hu.sup hfu hM w2 h2, hv.sup hfv hM w2 h2⟩, hb⟩
theorem Sup2.below {w0 w w' : World} {u v : Value} {a b : Nat} (h : Sup2 w0 w u v a b) (hb : Below w.heap.size w w') : Sup2 w0 w' u v a b := fun M hM => (h M hM).below hb
theorem Sup2.le {w0 w1 w : World} {u v : Value} {a b : Nat} (h : Sup2 w1 w u v a b) (hs : w0.heap.size ≤ w1.heap.size) : Sup2 w0 w u v a b := fun M hM => h M (hM.mv hs)
/-- What stands after an append to a list of the fleet, stored in its field. -/
structure AddPost (t : TypeId) (w Wc w6 : World) (gf fi : Nat) (o : Own) (size : Nat) (cs : Array Value) (v6 : Value) (L : List (List Value)) (row : List Value) : Prop where
  heap_ : (w6.setCell ⟨gf, fi, none⟩ v6).heap[gf]? = some (.cells (cs.setIfInBounds fi v6) t (0, 0))
  own : RowsOwn (w6.setCell ⟨gf, fi, none⟩ v6) (Grow o Wc w6) size v6 (L ++ [row])
  fr : Fr (Or (Just gf) o) w (w6.setCell ⟨gf, fi, none⟩ v6)
  ext : ∀ k, Grow o Wc w6 k → o k ∨ w.heap.size ≤ k
  under : Under (w6.setCell ⟨gf, fi, none⟩ v6) (Grow o Wc w6)
  sup : ∀ (M : Own) (P : World → Prop), Under w M → (∀ k, Or (Just gf) o k → M k) → Sup M Wc P → Sup (Or M (Grow o Wc w6)) (w6.setCell ⟨gf, fi, none⟩ v6) P
  cell : w6.cell? ⟨gf, fi, none⟩ = cs[fi]?
  frozen : w6.frozen? ⟨gf, fi, none⟩ = false
theorem add_post {t : TypeId} {w Wc w6 : World} {gf fi : Nat} {o : Own} {size : Nat} {cs : Array Value} {v v6 : Value} {L : List (List Value)} {row : List Value} (hrow : w.heap[gf]? = some (.cells cs t (0, 0))) (hR : RowsOwn w o size v L) (ho : ∀ k, o k → gf < k) (hu : Under w o)
    (hW : Below w.heap.size w Wc) (hown6 : OwnSl w6 (Grow o Wc w6) size v6 (L.length + 1) (L.flatten ++ row)) (hgrow : Fr o Wc w6) (hrl : row.length = size) : AddPost t w Wc w6 gf fi o size cs v6 L row := by
  have hgf := (Array.getElem?_eq_some_iff.1 hrow).1
  have hno : ¬ o gf := fun e => by have := ho _ e; omega
  have hr6 : w6.heap[gf]? = some (.cells cs t (0, 0)) := (hgrow.block gf (Nat.lt_of_lt_of_le hgf hW.size) hno).trans ((hW.block gf hgf).trans hrow)
  have hn6 : ¬ Grow o Wc w6 gf := fun e => by
    rcases e with e | e
    · exact hno e
    · have := hW.size
      omega
  have hfs : Fr (Just gf) w6 (w6.setCell ⟨gf, fi, none⟩ v6) := (Fr.refl (Just gf) w6).setCell ⟨gf, fi, none⟩ _ (.inl rfl)
  have hext : ∀ k, Grow o Wc w6 k → o k ∨ w.heap.size ≤ k := fun k e => by
    rcases e with e | e
    · exact .inl e
    · exact .inr (Nat.le_trans hW.size e.1)
  refine ⟨heap_setCell_same w6 gf fi _ _ v6 hr6, ?_, ?_, hext, ?_, fun M P hM hs hP => ?_, cell_block hr6 fi, frozen_of_row _ _ _ _ _ hr6⟩
  · exact (hR.snoc hrl hown6).fr hfs (fun k a b => by
      have : k = gf := b
      subst this
      exact hn6 a)
  · have h1 : Fr (Or (Just gf) o) w w6 := (Fr.ofBelow hW : Fr (Or (Just gf) o) w Wc).trans (o1 := o) (fun k e => .inl (.inr e)) hgrow
    exact h1.trans (o1 := Just gf) (fun k e => .inl (.inl e)) hfs
  · exact (hgrow.under (hu.mv hW.size)).mv (by simp)
  · have h1 : Sup (Or M (Grow o Wc w6)) w6 P := hP.mv ⟨hgrow.mono (fun k e => hs k (.inr e)), fun k e => by
      rcases e with e | e
      · exact .inl e
      · rcases e with e | e
        · exact .inl (hs k (.inr e))
        · exact .inr e.1⟩
    exact h1.fr (hfs.mono (fun k e => .inl (hs k (.inl e))))
abbrev domRow (s : ByteArray) (lv pa up : Int) (u v : Value) : List Value := [.string s, .int .i64 lv, .int .i64 pa, .int .i64 up, .bool false, u, v]
def DomPost (w w' : World) (gf : Nat) (od : Own) (ex : Int) (vl vm vr vp vv : Value) (L : List (List Value)) (lv pa up : Int) (e : Ending) : Prop :=
  e = .returned (.int .i64 (L.length : Nat)) ∧ ∃ vd' od' s u v a b, w'.heap[gf]? = some (.cells (fleetArr ex vl vm vd' vr vp vv) 33 (0, 0)) ∧ RowsOwn w' od' 7 vd' (L ++ [domRow s lv pa up u v]) ∧ Fr (Or (Just gf) od) w w' ∧
    (∀ k, od' k → od k ∨ w.heap.size ≤ k) ∧ Under w' od' ∧ 0 < b ∧ ∀ M, Under w M → (∀ k, Or (Just gf) od k → M k) → Sup (Or M od') w' fun w' => One w' u a ∧ One w' v b
set_option maxRecDepth 100000 in
set_option maxHeartbeats 8000000 in
theorem domain_any {w : World} {gf : Nat} {od : Own} {ex : Int} {vl vm vd vr vp vv : Value} {L : List (List Value)} (hrow : w.heap[gf]? = some (.cells (fleetArr ex vl vm vd vr vp vv) 33 (0, 0))) (hR : RowsOwn w od 7 vd L) (hod : ∀ k, od k → gf < k) (hou : Under w od) (hL : L.length ≤ 100) (lv pa up : Int) :
    Calls Try.prog 13 #[.pointer (some ⟨gf, 0, none⟩), .int .i64 lv, .int .i64 pa, .int .i64 up] w fun e w' => DomPost w w' gf od ex vl vm vr vp vv L lv pa up e := by
  obtain ⟨i0, hi0, hz0, hz1, hz2⟩ := info_parts Try.info_dom
  obtain ⟨A, c, rfl, hc, hcm, _⟩ := hR.at_
  have hgf := (Array.getElem?_eq_some_iff.1 hrow).1
  have q3 : w.cell? ⟨gf, 3, none⟩ = some (.slice A L.length c) := cell_block hrow 3
  have HROW := hid hrow
  have HR := hid hR
  have HGF := hid hgf
  have HOD := hid hod
  have HOU := hid hou
  have HS := hid (fun (W : World) (hW : Below w.heap.size w W) => (hW.cell (p := ⟨gf, 3, none⟩) hgf).trans q3)
  obtain ⟨k, hk⟩ : ∃ k, L.length = k := ⟨_, rfl⟩
  have HK := hid hk
  rw [hk] at hc hL q3 HS
  unfold maxLen at hcm
  clear hrow hR hgf hk hou hod
  go_enter Try.func13, Try.ntmps13
  go_upto_region 2 with fail
  have HWv := hid ((Below.refl w.heap.size w).drew)
  have HO := hid (show OwnSl w od 7 (.slice A k c) k L.flatten from by
    have := HR.out.own
    rw [HK.out] at this
    exact this)
  have q3w : w.drew.cell? ⟨gf, 3, none⟩ = some (.slice A k c) := HS.out _ HWv.out
  go_region_law
    ((first
      | (go_simp; go_at_call 14; refine (name_any 110 k (by omega) _).mono ?_; rintro e wx ⟨s, rfl, hb⟩; replace HWv := hid (HWv.out.trans (hb.mono HWv.out.size)); have q3x := HS.out _ HWv.out; clear hb)
      | (go_simp; go_at_call 12; refine (frac_01 _).mono ?_; rintro e wx hfr; obtain ⟨u, v, a, b, rfl, hu, hv, hb0, hsu, hb⟩ := hfr.sup; obtain ⟨Au, ku, cu, rfl⟩ := hu.sl; obtain ⟨Av, kv, cv, rfl⟩ := hv.sl; have HSU := hid (hsu.le HWv.out.size); replace HWv := hid (HWv.out.trans (hb.mono HWv.out.size)); have q3y := HS.out _ HWv.out; have q3z := HS.out _ (HWv.out.alloc HWv.out.size (.cells (domRow s lv pa up (.slice Au ku cu) (.slice Av kv cv)).toArray 68)); have HB0 := hid hb0; clear hu hv hsu hb hb0 hfr)
      | (refine step_append_sl (by rfl) (.tmp 19) (.tmp 27) 28 (by rfl) 68 i0 _ 7 96 Try.underlying28 hi0 hz0 hz1 hz2 rfl (by decide) od (.slice A k c) _ k 1 L.flatten (domRow s lv pa up (.slice Au ku cu) (.slice Av kv cv)) (by rfl) (by rfl) (HO.out.below (HWv.out.alloc HWv.out.size _)) ⟨rfl, .inr ⟨_, 1, rfl, World.news_of_block (cs := (domRow s lv pa up (.slice Au ku cu) (.slice Av kv cv)).toArray) (fr := (0, 0)) (heap_alloc_new _ _)⟩⟩ (by intro u hu; simp at hu; rcases hu with rfl | rfl | rfl | rfl | rfl | rfl | rfl <;> rfl) (by unfold maxLen; omega) (by omega) ?_; intro v6 w6 hown6 hgrow; rw [← HK.out] at hown6; have HAP := hid (add_post (fi := 3) HROW.out HR.out HOD.out HOU.out (HWv.out.alloc HWv.out.size _) hown6 hgrow rfl); have q0 : w6.cell? ⟨gf, 3, none⟩ = some (.slice A k c) := HAP.out.cell.trans (by rw [HK.out]; rfl); have q1 := HAP.out.frozen; replace HSU := hid (HSU.out.below ((Below.refl _ _).alloc (Nat.le_refl _) (.cells (domRow s lv pa up (.slice Au ku cu) (.slice Av kv cv)).toArray 68))); obtain ⟨A6, c6, rfl, _⟩ := hown6.form; clear hown6 hgrow)))
  all_goals
    clear q0 q1
    go_wp2
    go_ret
    exact ⟨by rw [HK.out]; rfl, _, _, s, _, _, a, b, HAP.out.heap_, HAP.out.own, HAP.out.fr, HAP.out.ext, HAP.out.under, HB0.out, fun M hM hs => HAP.out.sup M _ hM hs (HSU.out M hM)⟩
end Go.Proofs.Ytpoaadjhaknhdaa
