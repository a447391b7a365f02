/- append of zeros; Split of the reference. -/
import Derived.Test.YtgeopgibjmhehaaV5
namespace Go.Proofs.Ytgeopgibjmhehaa
open Go Go.RowKit Go.Sort
attribute [local go_sem ↓] Go.wp_at_zero Go.wp_at_succ

theorem zeroCells_one (z : Value) (m : Nat) : Builtin.zeroCells #[z] m = (List.replicate m z).toArray := by
  apply Array.ext_getElem?
  intro i
  unfold Builtin.zeroCells
  by_cases h : i < m
  · simp [h, Nat.mod_one]
  · simp [h]
/-- append(v, make([]T, m)...) of elements of one cell. -/
theorem run_append_zeros {P : Program} (w : World) (t tn ty e : TypeId) (i : TypeInfo) (z : Value) (kn : IntKind) (ht : P.underlying t = some (.slice e)) (htn : P.underlying tn = some (.int kn)) (hi : P.info? e = some i) (hz : i.zero = some z)
    (hsize : i.size = 1) (hby : i.bytes = 1) (hz1 : z.cells = #[z]) (hz2 : z.oneCell' = true) {o : Own} {v : Value} {n m : Nat} {xs : List Value} (hown : OwnSl w o 1 v n xs) (hm : n + m ≤ 100000) :
    ∃ v' w', (Builtin.append_ #[t, tn] ty #[v, .int .i64 m]).run P w = .ok v' w' ∧ OwnSl w' (Grow o w w') 1 v' (n + m) (xs ++ List.replicate m z) ∧ Fr o w w' := by
  have hw : IntKind.i64.wrap (m : Int) = m := by rw [IntKind.wrap_i64]; omega
  have hneg : ¬ ((m : Int) < 0) := by omega
  have h48i : ¬ (281474976710656 < (m : Int) * (i.bytes : Int)) := by rw [hby]; omega
  have hxl : xs.length = n := by have := hown.1; omega
  have grown : ∀ cap, n + m ≤ cap → cap ≤ maxLen → ∀ rest : Array Value, rest.size = cap - (n + m) → ∀ w1 : World, w1.heap = w.heap → w1.os = w.os → w1.tape = w.tape → w1.output = w.output →
      OwnSl (w1.alloc (.cells (xs.toArray ++ (List.replicate m z).toArray ++ rest) e)) (Grow o w (w1.alloc (.cells (xs.toArray ++ (List.replicate m z).toArray ++ rest) e))) 1 (.slice (some ⟨w.heap.size, 0, none⟩) (n + m) cap) (n + m) (xs ++ List.replicate m z) ∧ Fr o w (w1.alloc (.cells (xs.toArray ++ (List.replicate m z).toArray ++ rest) e)) := by
    intro cap hc hcm rest hr w1 e1 e2 e3 e4
    have hg := heap_alloc_new w1 (.cells (xs.toArray ++ (List.replicate m z).toArray ++ rest) e)
    rw [e1] at hg
    refine ⟨⟨by simp [hxl], .inr ⟨w.heap.size, 0, cap, rfl, .inr ⟨Nat.le_refl _, by simp [e1]⟩, by simp [e1], hc, hcm, fun j u hu => ?_, fun j hj => ⟨?_, ?_⟩⟩⟩, ⟨e2, e3, e4, by simp [e1], fun k hk _ => ?_⟩⟩
    · rw [Nat.zero_add, cell_block hg, ← Array.getElem?_toList]
      simp only [Array.toList_append, List.append_assoc]
      rw [← List.append_assoc, List.getElem?_append_left (by exact (List.getElem?_eq_some_iff.1 hu).1)]
      exact hu
    · rw [Nat.zero_add, cell_block hg]
      have : j < (xs.toArray ++ (List.replicate m z).toArray ++ rest).size := by simp [hxl, hr]; omega
      rw [Array.getElem?_eq_getElem this]
      rfl
    · rw [Nat.zero_add]; exact free_block hg j
    · have := Below.heap_alloc w1 (.cells (xs.toArray ++ (List.replicate m z).toArray ++ rest) e) k (by rw [e1]; exact hk)
      rw [this, e1]
  rcases hown.2 with ⟨rfl, rfl⟩ | ⟨g, off, cap, rfl, hog, hg, hnc, hcm, hcell, hfree⟩
  · obtain rfl : xs = [] := List.eq_nil_of_length_eq_zero hxl
    by_cases h0 : m = 0
    · subst h0
      refine ⟨.slice none 0 0, w, ?_, by simpa using hown.mono fun _ e => .inl e, Fr.refl _ _⟩
      have hw0 : IntKind.i64.wrap 0 = 0 := by decide
      simp [Builtin.append_, run_underlying ht, run_underlying htn, sizeOf, typeInfo, hi, asInt, asIntOf, hw0]
    · have hr := Lib.run_append_nil_zeros (P := P) w t tn ty e i z .i64 kn ht htn hi hz m (by omega) (by omega) (by omega) (by omega)
      have hge := grownCap_ge w m 0 e
      have hcm : grownCap w m 0 e ≤ maxLen := grownCap_le_maxLen w m 0 e (by unfold maxLen; omega)
      have := grown (grownCap w m 0 e) (by omega) hcm (Builtin.zeroCells z.cells (grownCap w m 0 e - m)) (by rw [hz1, zeroCells_one]; simp) w.drew rfl rfl rfl rfl
      refine ⟨_, _, hr, ?_⟩
      rw [hz1] at this ⊢
      rw [zeroCells_one z m]
      simpa using this
  · by_cases hroom : n + m ≤ cap
    · have hst := run_storeCells_cells (P := P) g (off + n) (List.replicate m z) 0 w (fun j hj => by
        rw [List.length_replicate] at hj
        have := (hfree (n + j) (by omega)).1
        rwa [show off + n + 0 + j = off + (n + j) by omega]) (fun j hj => by
        rw [List.length_replicate] at hj
        have := (hfree (n + j) (by omega)).2
        rwa [show off + n + 0 + j = off + (n + j) by omega]) (fun u hu => by rw [(List.mem_replicate.1 hu).2]; exact hz2)
      simp only [Nat.add_zero] at hst
      refine ⟨.slice (some ⟨g, off, none⟩) (n + m) cap, w.setCells g (off + n) (List.replicate m z), ?_, ⟨by simp [hxl], .inr ⟨g, off, cap, rfl, .inl hog, by rw [size_setCells]; exact hg, hroom, hcm, fun j u hu => ?_, fun j hj => ?_⟩⟩, Fr.setCells (.inl hog) _ _ _ (Fr.refl _ _)⟩
      · by_cases h0 : m = 0
        · subst h0
          have hw0 : IntKind.i64.wrap 0 = 0 := by decide
          simp [Builtin.append_, run_underlying ht, run_underlying htn, sizeOf, typeInfo, hi, asInt, asIntOf, hw0, hsize, hnc, storeCells, World.setCells]
        · simp [Builtin.append_, run_underlying ht, run_underlying htn, sizeOf, typeInfo, zeroValue, hi, hz, asInt, asIntOf, hw, hneg, h48i, hroom, hsize, hz1, zeroCells_one, add_plain, hst, h0]
      · by_cases hj : j < xs.length
        · rw [cell_setCells_out _ _ _ _ _ (.inr (.inl (show off + j < off + n by omega)))]
          exact hcell j u (by rwa [List.getElem?_append_left hj] at hu)
        · rw [List.getElem?_append_right (by omega)] at hu
          have := cells_setCells_new g (List.replicate m z) (off + n) w (fun j hj => by
            rw [List.length_replicate] at hj
            have := (hfree (n + j) (by omega)).1
            rwa [show off + n + j = off + (n + j) by omega]) (j - xs.length) u hu
          rwa [show off + n + (j - xs.length) = off + j by omega] at this
      · rw [frozen_setCells]
        exact ⟨isSome_setCells _ _ _ _ _ (hfree j hj).1, (hfree j hj).2⟩
    · have hge := grownCap_ge w (n + m) cap e
      have hgm : grownCap w (n + m) cap e ≤ maxLen := grownCap_le_maxLen w (n + m) cap e (by unfold maxLen; omega)
      have hfo := run_firstCells_some (P := P) w.drew i.size n ⟨g, off, none⟩ n cap xs (by rw [hsize]; omega) (fun j u hu => by rw [add_plain]; exact hcell j u hu)
      have hfit : ¬ (281474976710656 < Builtin.nextslicecap (n + m) cap * i.bytes) := by
        have := growslice_fits (bytes := i.bytes) (need := n + m) (old := cap) (by omega) (by rw [hby]; omega)
        omega
      have h63' : ¬ (9223372036854775807 < ((n : Int) + (m : Int))) := by omega
      have := grown (grownCap w (n + m) cap e) hge hgm (Builtin.zeroCells z.cells (grownCap w (n + m) cap e - (n + m))) (by rw [hz1, zeroCells_one]; simp) w.drew rfl rfl rfl rfl
      refine ⟨_, _, ?_, this⟩
      have hm0 : m ≠ 0 := by omega
      rw [hsize] at hfo
      have hfitb : ¬ (281474976710656 < Builtin.nextslicecap (n + m) cap) := by rw [hby, Nat.mul_one] at hfit; exact hfit
      have h48b : ¬ (281474976710656 < (m : Int)) := by omega
      simp [Builtin.append_, run_underlying ht, run_underlying htn, sizeOf, typeInfo, zeroValue, hi, hz, asInt, asIntOf, hw, hneg, h48b, hroom, h63', hfitb, hsize, hby, hz1, zeroCells_one, hm0, Question.forced, hfo, newRow, grownCap]
theorem wpList_append_zeros {w : World} {ops : Array Oper} {rest : List Oper} {op : Oper} {a : Act} {Q : Exit → Act → World → Prop} (hgd : op.guard = none) (s x : Operand)
    (ho : op.op = .call { callee := .builtin .append, args := #[s, x], argTypes := #[22, 3] }) {o : Own} {v : Value} {n m : Nat} {z : Int} {xs : List Value} (hown : OwnSl w o 1 v n xs) (hs : a.eval s = v) (hx : a.eval x = .int .i64 z) (hz : z = (m : Int)) (hm : n + m ≤ 100000)
    (hK : ∀ v' w', OwnSl w' (Grow o w w') 1 v' (n + m) (xs ++ List.replicate m (.int .u8 0)) → Fr o w w' → wpList Try.prog ops Q rest (a.put op.dst v') w') : wpList Try.prog ops Q (op :: rest) a w := by
  obtain ⟨i0, hi0, hz0, hz1, hz2⟩ := info_parts Try.info_b8
  subst hz
  obtain ⟨v', w', hrun, h1, h2⟩ := run_append_zeros (P := Try.prog) w 22 3 op.type 5 i0 (.int .u8 0) .i64 Try.underlying22 Try.underlying3 hi0 hz0 hz1 hz2 rfl rfl hown hm
  exact Lib.wpList_append_run w hgd s x 22 3 ho v (.int .i64 m) hs hx v' w' hrun (hK v' w' h1 h2)
theorem ByteSl.src {w : World} {A : Option Addr} {m c : Nat} {l : List B8} (h : ByteSl w (.slice A m c) l) (hm : l.length = m) (hA : A = none → c = 0) : Src w 1 (.slice A m c) m (bcells l) := by
  refine ⟨by rw [bcells_length, hm, Nat.mul_one], ?_⟩
  obtain ⟨_, _, A', c', e, hcell⟩ := h
  injection e with e1 e2 e3
  subst e1; subst e3
  rw [hm] at hcell
  cases A with
  | none =>
    have hc := hA rfl
    subst hc
    by_cases h0 : 0 < m
    · obtain ⟨b, off, e, _⟩ := hcell h0
      cases e
    · obtain rfl : m = 0 := by omega
      exact .inl ⟨rfl, rfl⟩
  | some ad =>
    refine .inr ⟨ad, c, rfl, fun j u hu => ?_⟩
    have hj : j < l.length := by have := (List.getElem?_eq_some_iff.1 hu).1; rwa [bcells_length] at this
    obtain ⟨b, off, e, _, hcc⟩ := hcell (by omega)
    injection e with e
    subst e
    rw [add_plain]
    exact hcc j u hu
theorem split_all (l : List B8) (m k i : Nat) (hm : l.length = m) (hmk : m ≤ k * 16) (hi : i < k) : ((l ++ List.replicate (k * 16 - m) 0#8).drop (i * 16)).take 16 = pad 16 ((l.drop (i * 16)).take 16) := by
  have hik : i * 16 + 16 ≤ k * 16 := by omega
  unfold pad
  rw [List.drop_append, List.take_append, List.length_drop, hm, List.drop_replicate, List.take_replicate]
  congr 2
  rw [List.length_take, List.length_drop, hm]
  omega
theorem split_take (k : Nat) (l : List B8) (j : Nat) (h : j < k) : (split k 16 l).take (j + 1) = (split k 16 l).take j ++ [pad 16 ((l.drop (j * 16)).take 16)] := by
  rw [List.take_succ_eq_append_getElem (by rw [split_length]; exact h)]
  congr 2
  simp [split]
set_option maxRecDepth 100000 in
set_option maxHeartbeats 2000000 in
theorem split_ref {A : Option Addr} {l : List B8} {k m c : Nat} {w : World} (hd : ByteSl w (.slice A m c) l) (hm : l.length = m) (hA : A = none → c = 0) (hk1 : 1 ≤ k) (hk : k ≤ 4) (hmk : m ≤ k * 16) :
    Calls Try.prog 14 #[.int .i64 k, .int .i64 16, .slice A m c] w fun e w' => ∃ v, e = .returned (.tuple #[v, .int .i64 0]) ∧ (∃ b off c, v = .slice (some ⟨b, off, none⟩) k c) ∧ RowsSl w' v (split k 16 l) ∧ Below w.heap.size w w' := by
  have HS := hid (hd.src hm hA)
  have HM := hid hm
  obtain ⟨i0, hi0, hz0, hz1, hz2⟩ := info_parts Try.info_b8
  clear hd hm hA
  go_enter Try.func14, Try.ntmps14
  go_wp2_with (at_builtin; refine wpList_append_sl (by rfl) (.const (.slice none 0 0)) (.tmp 31) 22 (by rfl) 5 i0 _ 1 1 Try.underlying22 hi0 hz0 hz1 hz2 rfl (by decide) NoOwn _ (.slice A m c) 0 m [] (bcells l) (by rfl) (by rfl) (OwnSl.nil _ _ _) HS.out (by intro u hu; obtain ⟨y, _, rfl⟩ := List.mem_map.1 hu; rfl) (by unfold maxLen; omega) (by omega) ?_)
  intro v1 w1 hown1 hf1
  have HO1 := hid hown1
  have HF1 := hid hf1
  clear hown1 hf1
  go_wp2_with (at_builtin; refine wpList_append_zeros (by rfl) (.tmp 32) (.tmp 38) (by rfl) (m := k * 16 - m) HO1.out (by rfl) (by rfl) (by omega) (by omega) ?_)
  intro v2 w2 hown2 hf2
  have hown3 : OwnSl w2 (Grow (Grow NoOwn w w1) w1 w2) 1 v2 (k * 16) (bcells (l ++ List.replicate (k * 16 - m) 0#8)) := by
    rw [show bcells (l ++ List.replicate (k * 16 - m) 0#8) = bcells l ++ List.replicate (k * 16 - m) (.int .u8 0) by simp [bcells]]
    exact (show m + (k * 16 - m) = k * 16 by omega) ▸ hown2
  obtain ⟨ba, oa, ca, rfl, _, hlta, hca, hcm, hcell, _⟩ := hown3.some_ (by omega)
  have HROW := hid (show ∀ j, j < k → ByteAt w2 ba (oa + j * 16) (pad 16 ((l.drop (j * 16)).take 16)) from fun j hj => by
    refine ⟨hlta, fun p hp => ?_⟩
    rw [pad_length _ _ (List.length_take_le _ _)] at hp
    refine (show oa + j * 16 + p = oa + (j * 16 + p) by omega) ▸ hcell (j * 16 + p) _ ?_
    have h1 := split_all l m k j HM.out hmk hj
    have hpl : j * 16 + p < (l ++ List.replicate (k * 16 - m) 0#8).length := by rw [List.length_append, List.length_replicate, HM.out]; omega
    rw [bcells_get _ _ hpl]
    congr 2
    have h2 : ((l ++ List.replicate (k * 16 - m) 0#8).drop (j * 16)).take 16 = pad 16 ((l.drop (j * 16)).take 16) := h1
    have h3 : (((l ++ List.replicate (k * 16 - m) 0#8).drop (j * 16)).take 16)[p]? = some ((l ++ List.replicate (k * 16 - m) 0#8)[j * 16 + p]) := by
      rw [List.getElem?_take, if_pos (by omega), List.getElem?_drop, List.getElem?_eq_getElem hpl]
    rw [h2, List.getElem?_eq_getElem (by rw [pad_length _ _ (List.length_take_le _ _)]; omega)] at h3
    injection h3 with h3
    exact h3.symm)
  have HB2 := hid (below_of_fr (HF1.out.below (B := w.heap.size) (fun _ e => e.elim) (Nat.le_refl _)) hf2 (fun x e => by
    rcases e with e | e
    · exact e.elim
    · exact e.1) HF1.out.size)
  have HST := hid (split_take k l)
  clear hown2 hown3 hf2 hcell HO1 HF1 HS HM
  go_wp2_with fail
  go_loopw [9, 10] (fun v i wr => ∃ (j : Nat) (o : Own), j ≤ k ∧ i = .int .i64 j ∧ Hid (OutRows wr o v 16 ((split k 16 l).take j)) ∧ Hid (Above w2.heap.size o) ∧ Hid (Below w2.heap.size w2 wr)) (fun _ i _ => (k - intOf i).toNat)
  case atStart => exact ⟨0, NoOwn, Nat.zero_le _, rfl, ⟨fun _ e => e.elim, [], OwnSl.nil _ _ _, fun i hi => by simp at hi⟩, fun _ e => e.elim, Below.refl _ _⟩
  case round =>
    obtain ⟨j, o, hj, rfl, HO, HA, HB⟩ := hrel
    have HTL := hid (show ((split k 16 l).take j).length = j by rw [List.length_take, split_length]; omega)
    obtain ⟨A', cap, rfl, hcap⟩ := HO.out.form HTL.out
    by_cases hlt : j < k
    · have HX := hid ((HROW.out j hlt).below HB.out)
      have HN := hid (show ¬ o ba from fun e => by have := HA.out _ e; omega)
      have HTT := hid (HST.out j hlt)
      obtain ⟨ls, hls⟩ : ∃ ls, (split k 16 l).take j = ls := ⟨_, rfl⟩
      rw [hls] at HO HTL HTT
      clear hls
      have hmul : ((j * 16 : Nat) : Int) = (j : Int) * 16 := by omega
      go_wp2_with (at_builtin; refine wpList_append_out (by rfl) (.tmp 45) (.tmp 61) (by rfl) HO.out HTL.out (by omega) HN.out HX.out (by rfl) (by rfl) ?_)
      intro v4 w4 ho4 hf4
      have hs3 := HB.out.size
      have HO4 := hid (show OutRows w4 _ v4 16 ((split k 16 l).take (j + 1)) by rw [HTT.out]; exact ho4)
      have HA4 := hid (hf4.mv.above HA.out (by simp; omega))
      have HB4 := hid (below_of_fr (HB.out.alloc hs3 _) hf4 HA.out (by simp; omega))
      clear ho4 hf4 HO HX HB HA HTT
      go_wp2
      go_roundw
      case rel => exact ⟨j + 1, _, by omega, by go_num, HO4, HA4, HB4⟩
      case measure => (simp [intOf]; try omega)
    · obtain rfl : j = k := by omega
      have hx := HO.out.rows (fun r hr => split_rows _ _ _ r (List.mem_of_mem_take hr)) (by unfold maxLen; omega) (by rw [List.length_take]; unfold maxLen; omega)
      rw [List.take_of_length_le (by rw [split_length]; exact Nat.le_refl _)] at hx
      obtain ⟨b, off, cap', e, _⟩ := HO.out.some_ HTL.out (by omega)
      have HX := hid hx
      have HE := hid e
      have HW := hid (HB2.out.trans (HB.out.mono HB2.out.size))
      clear hx e
      go_wp2
      go_ret2
      exact ⟨_, rfl, ⟨b, off, cap', HE.out⟩, HX.out, HW.out⟩
end Go.Proofs.Ytgeopgibjmhehaa
