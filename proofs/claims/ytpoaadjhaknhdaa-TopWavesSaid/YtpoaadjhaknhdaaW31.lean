/- The reference's natural numbers of one limb: Trim, large, Make. -/
import Derived.Test.YtpoaadjhaknhdaaMB
namespace Go.Proofs.Ytpoaadjhaknhdaa
open Go Go.RowKit Go.Sort Go.Deep

theorem Limbs.srcTake {w : World} {A : Option Addr} {n c : Nat} {l : List Nat} (h : Limbs w (.slice A n c) l) (k : Nat) (hk : k ≤ l.length) : Src w 1 (.slice A k c) k ((l.take k).map u32v) := by
  have hl : (l.take k).length = k := by rw [List.length_take]; omega
  refine ⟨by rw [List.length_map, hl, Nat.mul_one], ?_⟩
  rcases h.sl with ⟨e, rfl⟩ | ⟨g, off, c0, e, h1, h2, h3, h4⟩
  · injection e with e1 e2 e3
    subst e1 e2 e3
    have : k = 0 := by simpa using hk
    subst this
    exact .inl ⟨rfl, rfl⟩
  · injection e with e1 e2 e3
    subst e1 e2 e3
    refine .inr ⟨_, c, rfl, fun j u hu => ?_⟩
    have hj : j < k := by
      have := (List.getElem?_eq_some_iff.1 hu).1
      rw [List.length_map, hl] at this
      exact this
    have hz := h4 j (by omega)
    rw [add_plain, hz]
    rw [List.getElem?_map, List.getElem?_take, if_pos hj, List.getElem?_eq_getElem (by omega)] at hu
    exact hu
theorem OwnSl.limbs {w : World} {o : Own} {v : Value} {l : List Nat} (h : OwnSl w o 1 v l.length (l.map u32v)) (hs : ∀ x ∈ l, x < 4294967296) : Limbs w v l := by
  refine ⟨?_, hs⟩
  rcases Nat.eq_zero_or_pos l.length with h0 | h0
  · rcases h.2 with ⟨rfl, _⟩ | ⟨g, off, c, rfl, _, hg, hnc, hc, _⟩
    · exact .inl ⟨rfl, List.length_eq_zero_iff.1 h0⟩
    · exact .inr ⟨g, off, c, rfl, hg, hnc, hc, fun j hj => by omega⟩
  · obtain ⟨g, off, c, rfl, _, hg, hnc, hc, hx, _⟩ := h.some_ h0
    exact .inr ⟨g, off, c, rfl, hg, hnc, hc, fun j hj => hx j _ (by rw [List.getElem?_map, List.getElem?_eq_getElem hj]; rfl)⟩
theorem limbs_ones (l : List Nat) : ∀ u ∈ l.map u32v, u.oneCell' = true := by
  intro u hu
  obtain ⟨x, _, rfl⟩ := List.mem_map.1 hu
  rfl
/-- The slice's block is new. -/
def From (n : Nat) (v : Value) : Prop := ∀ g k c, v = .slice (some g) k c → n ≤ g.block
theorem From.nil (n : Nat) : From n (.slice none 0 0) := fun g k c e => by cases e
theorem From.le {n m : Nat} {v : Value} (h : From n v) (hm : m ≤ n) : From m v := fun g k c e => Nat.le_trans hm (h g k c e)
theorem OwnSl.from {w w' : World} {s n : Nat} {v : Value} {xs : List Value} (h : OwnSl w' (Grow NoOwn w w') s v n xs) : From w.heap.size v := by
  rcases h.2 with ⟨rfl, _⟩ | ⟨g, off, c, rfl, ho, _⟩
  · exact From.nil _
  · intro g' k' c' e
    injection e with e
    injection e with e
    subst e
    rcases ho with e | e
    · exact e.elim
    · exact e.1
def TrimPost (w w' : World) (l : List Nat) (e : Ending) : Prop := ∃ v, e = .returned v ∧ Limbs w' v (l.take (top l l.length)) ∧ From w.heap.size v ∧ Below w.heap.size w w'
set_option maxRecDepth 100000 in
set_option maxHeartbeats 800000 in
theorem rtrim_any {w : World} {v : Value} {l : List Nat} (h : Limbs w v l) (h5 : l.length ≤ 512) : Calls Try.prog 35 #[v] w fun e w' => TrimPost w w' l e := by
  obtain ⟨i0, hi0, hz0, hz1, hz2⟩ := info_parts Try.info_u32
  obtain ⟨A, c, rfl, hc, hm, hA, hcell⟩ := h.form
  have HS := hid h.small
  have HC := hid hcell
  have HK := hid (fun k (hk : k ≤ l.length) => h.srcTake k hk)
  have hone := limbs_ones l
  have HO := hid (fun (k : Nat) (hk : k ≤ l.length) (ht : top l k = top l l.length) (ht2 : top l k = k) (v6 : Value) (w6 : World) (o : Own) (hh : OwnSl w6 o 1 v6 k ((l.take k).map u32v)) => show Limbs w6 v6 (l.take (top l l.length)) by
    rw [← ht, ht2]
    refine OwnSl.limbs (o := o) ?_ (fun x hx => h.small x (List.mem_of_mem_take hx))
    rw [show (l.take k).length = k by rw [List.length_take]; omega]
    exact hh)
  clear hcell h hA
  unfold maxLen at hm
  go_enter Try.func35, Try.ntmps35
  go_wp2_with fail
  go_loop [3] (fun i => ∃ k : Nat, k ≤ l.length ∧ i = .int .i64 k ∧ Hid (top l k = top l l.length)) (fun i => (intOf i).toNat)
  case atStart => exact ⟨l.length, Nat.le_refl _, rfl, hid rfl⟩
  case round =>
    obtain ⟨k, hk, rfl, HT⟩ := hrel
    cases k with
    | zero =>
      have HP := hid (HK.out 0 hk)
      go_wp2_with (at_builtin; refine wpList_append_sl (by rfl) _ (.tmp 20) 46 (by rfl) 78 i0 _ 1 4 Try.underlying46 hi0 hz0 hz1 hz2 rfl (by decide) NoOwn (.slice none 0 0) (.slice A 0 c) 0 0 [] _ (by rfl) (by rfl) (OwnSl.nil _ _ _) HP.out (fun u hu => hone u (List.mem_of_mem_take (by rw [← List.map_take]; exact hu))) (by unfold maxLen; omega) (by omega) ?_)
      intro v6 w6 hown6 hgrow
      go_wp2
      go_ret
      exact ⟨_, rfl, HO.out 0 hk HT.out rfl _ _ _ (by simpa using hown6), OwnSl.from hown6, hgrow.below (fun k e => e.elim) (Nat.le_refl _)⟩
    | succ k =>
      obtain ⟨g, off, rfl, hg, z0⟩ := HC.out k (by omega)
      have HX := hid (HS.out l[k] (List.getElem_mem _))
      have HU := hid (show top l (k + 1) = if l[k] = 0 then top l k else k + 1 by
        rw [top, List.getD_eq_getElem?_getD, List.getElem?_eq_getElem (by omega)]
        rfl)
      generalize l[k] = x at *
      have hk1 : ((k + 1 : Nat) : Int) - 1 = (k : Int) := by omega
      by_cases hx : x = 0
      · subst hx
        go_wp2
        go_round
        case rel => exact ⟨k, by omega, by go_num, hid (by rw [← HT.out, HU.out, if_pos rfl])⟩
        case measure => (simp [intOf]; try omega)
      · have hx1 : ((x : Int) == 0) = false := by rw [beq_eq_false_iff_ne]; omega
        have HP := hid (HK.out (k + 1) hk)
        go_wp2_with (at_builtin; refine wpList_append_sl (by rfl) _ (.tmp 20) 46 (by rfl) 78 i0 _ 1 4 Try.underlying46 hi0 hz0 hz1 hz2 rfl (by decide) NoOwn (.slice none 0 0) _ 0 (k + 1) [] _ (by rfl) (by rfl) (OwnSl.nil _ _ _) HP.out (fun u hu => hone u (List.mem_of_mem_take (by rw [← List.map_take]; exact hu))) (by unfold maxLen; omega) (by omega) ?_)
        intro v6 w6 hown6 hgrow
        go_wp2
        go_ret
        exact ⟨_, rfl, HO.out (k + 1) hk HT.out (by rw [HU.out, if_neg hx]) _ _ _ (by simpa using hown6), OwnSl.from hown6, hgrow.below (fun k e => e.elim) (Nat.le_refl _)⟩
theorem take_top_one (n : Nat) : (if n = 0 then [] else [n]).take (top (if n = 0 then [] else [n]) (if n = 0 then [] else [n]).length) = if n = 0 then [] else [n] := by
  by_cases h : n = 0
  · rw [if_pos h]; rfl
  · rw [if_neg h]
    simp [top, h]
section
variable {w : World} {u v : Value} {a b : Nat}
theorem rtrim_one (h : One w v a) : Calls Try.prog 35 #[v] w fun e w' => ∃ v', e = .returned v' ∧ One w' v' a ∧ Below w.heap.size w w' ∧ From w.heap.size v' := by
  refine (rtrim_any h.2 (by split <;> simp)).mono ?_
  rintro e w' ⟨v', rfl, hl, hf, hb⟩
  rw [take_top_one] at hl
  exact ⟨v', rfl, ⟨h.1, hl⟩, hb, hf⟩
theorem rlarge_one (h : One w v a) : Calls Try.prog 45 #[v] w fun e w' => e = .returned (.bool false) ∧ Below w.heap.size w w' := by
  have H := hid h
  have hl := lenN_le a
  clear h
  go_enter Try.func45, Try.ntmps45
  go_wp2_with fail
  refine (rtrim_one H.out).mono ?_
  rintro e w2 ⟨v2, rfl, hv2, hb2, _⟩
  obtain ⟨A, c, rfl, _, _⟩ := hv2.form
  have HB := hid hb2
  clear hv2 hb2
  generalize lenN a = k at *
  have hk : ¬ (512 : Int) < (k : Int) := by omega
  go_wp2
  go_ret
  exact ⟨by simp; omega, HB.out⟩
set_option maxHeartbeats 400000 in
theorem rmake_one (x : Nat) (hx : x < 4294967296) (w : World) : Calls Try.prog 30 #[.int .u64 (x : Int)] w fun e w' => ∃ v, e = .returned v ∧ One w' v x ∧ Below w.heap.size w w' := by
  have hx0 : (x : Int) / 4294967296 = 0 := by omega
  have HL := hid (limbs_new w [x, 0] 78 (by simp; exact hx) (by unfold maxLen; simp))
  have HT := hid (show ([x, 0] : List Nat).take (top [x, 0] 2) = if x = 0 then [] else [x] by
    by_cases h : x = 0
    · subst h; rfl
    · rw [if_neg h]; simp [top, h])
  go_enter Try.func30, Try.ntmps30
  go_wp2_with fail
  refine (rtrim_any HL.out (by simp)).mono ?_
  rintro e w' ⟨v', rfl, hl, _, hb⟩
  have H := hid (And.intro hl hb)
  clear hl hb
  go_wp2
  go_ret
  obtain ⟨hl, hb⟩ := H.out
  refine ⟨_, rfl, ⟨hx, ?_⟩, ((Below.refl _ _).alloc (Nat.le_refl _) _).trans (hb.mono (by simp))⟩
  rw [← HT.out]
  exact hl
end
end Go.Proofs.Ytpoaadjhaknhdaa
