/- Natural numbers of few limbs: contracts of the program. -/
import Derived.Test.YtpoaadjhaknhdaaW0
import Derived.LoopN
namespace Go.Proofs.Ytpoaadjhaknhdaa
open Go Go.RowKit Go.Sort Go.Deep

abbrev u32v (x : Nat) : Value := .int .u32 (x : Int)
/-- A row of limbs. -/
structure Limbs (w : World) (v : Value) (l : List Nat) : Prop where
  sl : (v = .slice none 0 0 ∧ l = []) ∨ ∃ g off c, v = .slice (some ⟨g, off, none⟩) l.length c ∧ g < w.heap.size ∧ l.length ≤ c ∧ c ≤ maxLen ∧ ∀ j (h : j < l.length), w.cell? ⟨g, off + j, none⟩ = some (u32v l[j])
  small : ∀ x ∈ l, x < 4294967296
theorem Limbs.form {w : World} {v : Value} {l : List Nat} (h : Limbs w v l) : ∃ A c, v = .slice A l.length c ∧ l.length ≤ c ∧ c ≤ maxLen ∧ (A = none → c = 0) ∧ ∀ j (hj : j < l.length), ∃ g off, A = some ⟨g, off, none⟩ ∧ g < w.heap.size ∧ w.cell? ⟨g, off + j, none⟩ = some (u32v l[j]) := by
  rcases h.sl with ⟨rfl, rfl⟩ | ⟨g, off, c, rfl, h1, h2, h3, h4⟩
  · exact ⟨none, 0, rfl, Nat.le_refl _, Nat.zero_le _, fun _ => rfl, fun j hj => by simp at hj⟩
  · exact ⟨_, c, rfl, h2, h3, (fun e => by cases e), fun j hj => ⟨g, off, rfl, h1, h4 j hj⟩⟩
theorem Limbs.below {w w' : World} {v : Value} {l : List Nat} (h : Limbs w v l) (hb : Below w.heap.size w w') : Limbs w' v l := by
  refine ⟨?_, h.small⟩
  rcases h.sl with h | ⟨g, off, c, rfl, h1, h2, h3, h4⟩
  · exact .inl h
  · exact .inr ⟨g, off, c, rfl, Nat.lt_of_lt_of_le h1 hb.size, h2, h3, fun j hj => (hb.cell (p := ⟨g, off + j, none⟩) h1).trans (h4 j hj)⟩
theorem Limbs.take {w : World} {A : Option Addr} {n c : Nat} {l : List Nat} (h : Limbs w (.slice A n c) l) (k c' : Nat) (hk : k ≤ l.length) (hc : c' ≤ c) (hkc : k ≤ c') : Limbs w (.slice A k c') (l.take k) := by
  have hl : (l.take k).length = k := by rw [List.length_take]; omega
  refine ⟨?_, fun x hx => h.small x (List.mem_of_mem_take hx)⟩
  rcases h.sl with ⟨e, rfl⟩ | ⟨g, off, c0, e, h1, h2, h3, h4⟩
  · injection e with e1 e2 e3
    subst e1 e2 e3
    have : k = 0 := by simpa using hk
    subst this
    exact .inl ⟨by rw [show c' = 0 by omega], rfl⟩
  · injection e with e1 e2 e3
    subst e1 e2 e3
    refine .inr ⟨g, off, c', by rw [hl], h1, by omega, by omega, fun j hj => ?_⟩
    rw [h4 j (by omega), List.getElem_take]
/-- How many limbs there are up to the last one that is not 0, among the first k. -/
def top (l : List Nat) : Nat → Nat
  | 0 => 0
  | k + 1 => if l.getD k 0 = 0 then top l k else k + 1
theorem top_le (l : List Nat) : ∀ k, top l k ≤ k
  | 0 => Nat.le_refl _
  | k + 1 => by
    unfold top
    have := top_le l k
    split <;> omega
set_option maxHeartbeats 400000 in
theorem length_any {w : World} {v : Value} {l : List Nat} (h : Limbs w v l) : Calls Try.prog 82 #[v] w fun e w' => e = .returned (.int .i64 (top l l.length : Nat)) ∧ w = w' := by
  obtain ⟨A, c, rfl, hc, hm, _, hcell⟩ := h.form
  have HS := hid h.small
  have HC := hid hcell
  clear hcell h
  unfold maxLen at hm
  go_enter Try.func82, Try.ntmps82
  go_wp2_with fail
  go_loop [3] (fun i => ∃ k : Nat, k ≤ l.length ∧ i = .int .i64 k ∧ Hid (top l k = top l l.length)) (fun i => (intOf i).toNat)
  case atStart => exact ⟨l.length, Nat.le_refl _, rfl, hid rfl⟩
  case round =>
    obtain ⟨k, hk, rfl, HT⟩ := hrel
    cases k with
    | zero =>
      go_wp2
      go_ret
      exact ⟨by rw [← HT.out]; rfl, rfl⟩
    | succ k =>
      obtain ⟨g, off, rfl, hg, z0⟩ := HC.out k (by omega)
      have HX := hid (HS.out l[k] (List.getElem_mem _))
      have HU := hid (show top l (k + 1) = if l[k] = 0 then top l k else k + 1 by
        rw [top, List.getD_eq_getElem?_getD, List.getElem?_eq_getElem (by omega)]
        rfl)
      generalize l[k] = x at *
      have hk1 : ((k + 1 : Nat) : Int) - 1 = (k : Int) := by omega
      by_cases hx : x = 0
      · subst hx
        go_wp2
        go_round
        case rel => exact ⟨k, by omega, by go_num, hid (by rw [← HT.out, HU.out, if_pos rfl])⟩
        case measure => (simp [intOf]; try omega)
      · have hx1 : ((x : Int) == 0) = false := by rw [beq_eq_false_iff_ne]; omega
        go_wp2
        go_ret
        exact ⟨by rw [← HT.out, HU.out, if_neg hx]; rfl, rfl⟩
/-- A canonical number of at most one limb. -/
def One (w : World) (v : Value) (n : Nat) : Prop := n < 4294967296 ∧ Limbs w v (if n = 0 then [] else [n])
theorem One.below {w w' : World} {v : Value} {n : Nat} (h : One w v n) (hb : Below w.heap.size w w') : One w' v n := ⟨h.1, h.2.below hb⟩
theorem One.nil (w : World) : One w (.slice none 0 0) 0 := ⟨by omega, .inl ⟨rfl, rfl⟩, fun x hx => by cases hx⟩
theorem One.empty {w : World} {g off c : Nat} (hg : g < w.heap.size) (hc : c ≤ maxLen) : One w (.slice (some ⟨g, off, none⟩) 0 c) 0 := ⟨by omega, .inr ⟨g, off, c, rfl, hg, Nat.zero_le _, hc, fun j hj => by cases hj⟩, fun x hx => by cases hx⟩
theorem One.mk {w : World} {g off c n : Nat} (hg : g < w.heap.size) (h1 : 1 ≤ c) (hc : c ≤ maxLen) (hn : 0 < n) (hs : n < 4294967296) (hz : w.cell? ⟨g, off, none⟩ = some (u32v n)) : One w (.slice (some ⟨g, off, none⟩) 1 c) n := by
  refine ⟨hs, ?_⟩
  rw [if_neg (by omega)]
  refine ⟨.inr ⟨g, off, c, rfl, hg, h1, hc, fun j hj => ?_⟩, fun x hx => by simp at hx; omega⟩
  obtain rfl : j = 0 := by simp at hj; omega
  exact hz
theorem One.cases {w : World} {v : Value} {n : Nat} (h : One w v n) : (n = 0 ∧ ∃ A c, v = .slice A 0 c ∧ c ≤ maxLen ∧ (A = none → c = 0) ∧ ∀ g, A = some g → g.spot = none ∧ g.block < w.heap.size) ∨ (0 < n ∧ ∃ g off c, v = .slice (some ⟨g, off, none⟩) 1 c ∧ g < w.heap.size ∧ 1 ≤ c ∧ c ≤ maxLen ∧ w.cell? ⟨g, off, none⟩ = some (u32v n)) := by
  obtain ⟨h1, h2⟩ := h
  by_cases hn : n = 0
  · rw [if_pos hn] at h2
    refine .inl ⟨hn, ?_⟩
    rcases h2.sl with ⟨rfl, _⟩ | ⟨g, off, c, rfl, e1, _, e3, _⟩
    · exact ⟨none, 0, rfl, Nat.zero_le _, fun _ => rfl, fun g e => by cases e⟩
    · exact ⟨_, c, rfl, e3, (fun e => by cases e), fun g' e => by injection e with e; subst e; exact ⟨rfl, e1⟩⟩
  · rw [if_neg hn] at h2
    refine .inr ⟨by omega, ?_⟩
    rcases h2.sl with ⟨_, e⟩ | ⟨g, off, c, rfl, e1, e2, e3, e4⟩
    · cases e
    · exact ⟨g, off, c, rfl, e1, e2, e3, e4 0 (by simp)⟩
def lenN (n : Nat) : Nat := if n = 0 then 0 else 1
theorem lenN_zero : lenN 0 = 0 := rfl
theorem lenN_pos {n : Nat} (h : 0 < n) : lenN n = 1 := if_neg (by omega)
section
variable {w : World} {u v : Value} {a b : Nat}
theorem length_one (h : One w v a) : Calls Try.prog 82 #[v] w fun e w' => e = .returned (.int .i64 (lenN a : Nat)) ∧ w = w' := by
  refine (length_any h.2).mono ?_
  rintro e w' ⟨rfl, rfl⟩
  refine ⟨?_, rfl⟩
  unfold lenN
  by_cases hn : a = 0
  · rw [if_pos hn, if_pos hn]; rfl
  · rw [if_neg hn, if_neg hn]
    simp [top, hn]
theorem lenN_le (n : Nat) : lenN n ≤ 1 := by unfold lenN; split <;> omega
theorem large_one (h : One w v a) : Calls Try.prog 90 #[v] w fun e w' => e = .returned (.bool false) ∧ w = w' := by
  have H := hid h
  have hl := lenN_le a
  go_enter Try.func90, Try.ntmps90
  go_wp2_with fail
  refine (length_one H.out).mono ?_
  rintro e w' ⟨rfl, rfl⟩
  generalize lenN a = k at *
  have hk : ¬ (512 : Int) < (k : Int) := by omega
  go_wp2
  go_ret
  exact ⟨by simp; omega, rfl⟩
theorem sized_any {A : Option Addr} {n c : Nat} {l : List Nat} (h : Limbs w (.slice A n c) l) (hl : l.length = n) (hn : n ≤ c) (h5 : n ≤ 512) :
    Calls Try.prog 91 #[.slice A n c] w fun e w' => e = .returned (.tuple #[.slice A (top l n) (top l n), .int .i64 0]) ∧ w = w' := by
  have H := hid h
  have ht := top_le l n
  have HL := hid hl
  clear h hl
  go_enter Try.func91, Try.ntmps91
  go_wp2_with fail
  refine (length_any H.out).mono ?_
  rintro e w' ⟨rfl, rfl⟩
  rw [HL.out]
  obtain ⟨k, hk⟩ : ∃ k, top l n = k := ⟨_, rfl⟩
  rw [hk] at ht ⊢
  have HK := hid hk
  clear hk
  go_wp2
  go_ret2
  exact ⟨by rw [HK.out]; rfl, rfl⟩
theorem limbs_new (w : World) (l : List Nat) (t : TypeId) (hs : ∀ x ∈ l, x < 4294967296) (hl : l.length ≤ maxLen) : Limbs (w.alloc (.cells (l.map u32v).toArray t)) (.slice (some ⟨w.heap.size, 0, none⟩) l.length l.length) l := by
  refine ⟨.inr ⟨w.heap.size, 0, l.length, rfl, by simp, Nat.le_refl _, hl, fun j hj => ?_⟩, hs⟩
  rw [Nat.zero_add, cell_block (heap_alloc_new w _) j]
  simp [hj]
/-- What is left of a row that has one limb at most. -/
theorem Limbs.one {w : World} {A : Option Addr} {n c : Nat} {l : List Nat} (h : Limbs w (.slice A n c) l) (hl : l.length = n) (hn : n ≤ c) (x : Nat) (ht : ∀ j, j < n → l.getD j 0 = if j = 0 then x else 0) (h0 : n = 0 → x = 0) (c' : Nat) (hc : c' ≤ c) (hc1 : lenN x ≤ c') : One w (.slice A (lenN x) c') x := by
  have hx : x < 4294967296 := by
    by_cases hn0 : n = 0
    · rw [h0 hn0]; omega
    · have := h.small (l.getD 0 0) (by rw [List.getD_eq_getElem?_getD, List.getElem?_eq_getElem (by omega)]; exact List.getElem_mem _)
      rw [ht 0 (by omega), if_pos rfl] at this
      exact this
  refine ⟨hx, ?_⟩
  have hk : lenN x ≤ l.length := by
    unfold lenN
    split
    · omega
    · rw [hl]; by_cases hn0 : n = 0
      · exact absurd (h0 hn0) (by assumption)
      · omega
  have := h.take (lenN x) c' hk hc hc1
  have e : l.take (lenN x) = if x = 0 then [] else [x] := by
    unfold lenN
    by_cases hx0 : x = 0
    · rw [if_pos hx0, if_pos hx0]; rfl
    · rw [if_neg hx0, if_neg hx0]
      cases l with
      | nil => exfalso; exact hx0 (h0 (by simpa using hl.symm))
      | cons y r =>
        have := ht 0 (by simp at hl; omega)
        simp at this
        simp [this]
  rwa [e] at this
theorem top_one (l : List Nat) (x : Nat) : ∀ n, (∀ j, j < n → l.getD j 0 = if j = 0 then x else 0) → (n = 0 → x = 0) → top l n = lenN x
  | 0, _, h => by rw [h rfl]; rfl
  | 1, h, _ => by
    have := h 0 (by omega)
    rw [if_pos rfl] at this
    unfold top lenN
    rw [this]
    rfl
  | n + 2, h, _ => by
    have := h (n + 1) (by omega)
    rw [if_neg (by omega)] at this
    rw [top, if_pos this]
    exact top_one l x (n + 1) (fun j hj => h j (by omega)) (fun e => by omega)
set_option maxHeartbeats 400000 in
theorem make_one (x : Nat) (hx : x < 4294967296) (w : World) : Calls Try.prog 66 #[.int .u64 (x : Int)] w fun e w' => ∃ v, e = .returned v ∧ One w' v x ∧ Below w.heap.size w w' := by
  have hx0 : (x : Int) / 4294967296 = 0 := by omega
  have HL := hid (limbs_new w [x, 0] 78 (by simp; exact hx) (by unfold maxLen; simp))
  have hx2 := lenN_le x
  have HT := hid (top_one [x, 0] x 2 (fun j hj => by
    rcases (by omega : j = 0 ∨ j = 1) with rfl | rfl <;> rfl) (fun e => by omega))
  have HO := hid (HL.out.one rfl (Nat.le_refl _) x (fun j hj => by
    have : j < 2 := hj
    rcases (by omega : j = 0 ∨ j = 1) with rfl | rfl <;> rfl) (fun e => by cases e) 2 (Nat.le_refl _) (by omega))
  go_enter Try.func66, Try.ntmps66
  go_wp2_with fail
  refine (length_any HL.out).mono ?_
  rintro e w' ⟨rfl, rfl⟩
  rw [show ([x, 0] : List Nat).length = 2 from rfl, HT.out]
  obtain ⟨k, hk⟩ : ∃ k, lenN x = k := ⟨_, rfl⟩
  rw [hk] at hx2 HO ⊢
  clear hk HT HL
  go_wp2
  go_ret
  exact ⟨_, rfl, HO.out, (Below.refl _ _).alloc (Nat.le_refl _) _⟩
end
end Go.Proofs.Ytpoaadjhaknhdaa

/- Natural numbers of one limb: Trim, Cmp, Bits, and the arithmetic. -/
namespace Go.Proofs.Ytpoaadjhaknhdaa
open Go Go.RowKit Go.Sort Go.Deep

theorem Try.info_u32 : (Try.prog.info? 78).map (fun i => (i.zero, i.size, i.bytes)) = some (some (.int .u32 0), 1, 4) := by kernel_rfl
section
variable {w : World} {u v : Value} {a b : Nat}
theorem One.src {A : Option Addr} {n c : Nat} (h : One w (.slice A n c) a) : Src w 1 (.slice A n c) (lenN a) (if a = 0 then [] else [u32v a]) := by
  rcases h.cases with ⟨rfl, A', c', e, _, hA, _⟩ | ⟨h0, g, off, c', e, _, _, _, hz⟩
  · injection e with e1 e2 e3
    subst e1 e2 e3
    refine ⟨rfl, ?_⟩
    cases A with
    | none => exact .inl ⟨by rw [hA rfl], rfl⟩
    | some g => exact .inr ⟨g, c, rfl, fun j u hu => by cases hu⟩
  · injection e with e1 e2 e3
    subst e1 e2 e3
    rw [lenN_pos h0, if_neg (by omega)]
    refine ⟨rfl, .inr ⟨_, c, rfl, fun j u hu => ?_⟩⟩
    cases j with
    | zero => simp at hu; subst hu; exact hz
    | succ j => cases hu
theorem OwnSl.one {o : Own} (h : OwnSl w o 1 v (lenN a) (if a = 0 then [] else [u32v a])) (ha : a < 4294967296) : One w v a := by
  by_cases h0 : a = 0
  · subst h0
    rcases h.2 with ⟨rfl, _⟩ | ⟨g, off, c, rfl, _, hg, _, hc, _⟩
    · exact One.nil w
    · exact One.empty hg hc
  · rw [if_neg h0, lenN_pos (by omega)] at h
    obtain ⟨g, off, c, rfl, _, hg, h1, hc, hz, _⟩ := h.some_ (by omega)
    exact One.mk hg h1 hc (by omega) ha (hz 0 _ rfl)
set_option maxRecDepth 100000 in
theorem trim_one (h : One w v a) : Calls Try.prog 87 #[v] w fun e w' => ∃ v', e = .returned v' ∧ One w' v' a ∧ Below w.heap.size w w' := by
  obtain ⟨i0, hi0, hz0, hz1, hz2⟩ := info_parts Try.info_u32
  have hf : ∃ A c, v = .slice A (lenN a) c ∧ lenN a ≤ c ∧ c ≤ maxLen := by
    rcases h.cases with ⟨rfl, A, c, rfl, h1, _⟩ | ⟨h0, g, off, c, rfl, _, h1, h2, _⟩
    · exact ⟨A, c, rfl, Nat.zero_le _, h1⟩
    · rw [lenN_pos h0]; exact ⟨_, c, rfl, h1, h2⟩
  obtain ⟨A, c, rfl, hc1, hc2⟩ := hf
  have hl := lenN_le a
  have HS := hid h.src
  have H := hid h
  have HO := hid (fun (v6 : Value) (w6 : World) (o : Own) (hh : OwnSl w6 o 1 v6 (lenN a) (if a = 0 then [] else [u32v a])) => OwnSl.one hh h.1)
  have H1 := hid (length_one h)
  have hone : ∀ u ∈ (if a = 0 then [] else [u32v a]), u.oneCell' = true := by intro u hu; split at hu; cases hu; simp at hu; subst hu; rfl
  generalize (if a = 0 then [] else [u32v a]) = xs at *
  generalize lenN a = k at *
  unfold maxLen at hc2
  clear h H
  go_enter Try.func87, Try.ntmps87
  go_wp2_with fail
  refine H1.out.mono ?_
  rintro e w' ⟨rfl, rfl⟩
  go_wp2_with (at_builtin; refine wpList_append_sl (by rfl) _ (.tmp 6) 46 (by rfl) 78 i0 _ 1 4 Try.underlying46 hi0 hz0 hz1 hz2 rfl (by decide) NoOwn (.slice none 0 0) (.slice A k c) 0 k [] xs (by rfl) (by rfl) (OwnSl.nil _ _ _) HS.out hone (by unfold maxLen; omega) (by omega) ?_)
  intro v6 w6 hown6 hgrow
  go_wp2
  go_ret
  exact ⟨_, rfl, HO.out _ _ _ (by simpa using hown6), hgrow.below (fun k e => e.elim) (Nat.le_refl _)⟩
end
end Go.Proofs.Ytpoaadjhaknhdaa

/- Natural numbers of one limb: Cmp, Bits. -/
namespace Go.Proofs.Ytpoaadjhaknhdaa
open Go Go.RowKit Go.Sort Go.Deep

def cmpN (a b : Nat) : Int := if a < b then -1 else if b < a then 1 else 0
section
variable {w : World} {u v : Value} {a b : Nat}
set_option maxRecDepth 100000 in
set_option maxHeartbeats 800000 in
theorem cmp_one (ha : One w u a) (hb : One w v b) : Calls Try.prog 71 #[u, v] w fun e w' => e = .returned (.int .i64 (cmpN a b)) ∧ Below w.heap.size w w' := by
  have la := hid (length_one ha)
  have lb := hid (length_one hb)
  rcases ha.cases with ⟨rfl, A, ca, rfl, _⟩ | ⟨a0, ga, oa, ca, rfl, hga, ha1, hac, za⟩
  · rw [lenN_zero] at la
    rcases hb.cases with ⟨rfl, B, cb, rfl, _⟩ | ⟨b0, gb, ob, cb, rfl, hgb, hb1, hbc, zb⟩
    · rw [lenN_zero] at lb
      go_enter Try.func71, Try.ntmps71
      go_wp2_with fail
      refine la.out.mono ?_
      rintro e w2 ⟨rfl, rfl⟩
      go_wp2_with fail
      refine lb.out.mono ?_
      rintro e w3 ⟨rfl, rfl⟩
      go_wp2
      refine wp_loop_rounds 1 ?_
      rw [rounds_succ]
      go_wp2
      go_ret
      exact ⟨rfl, Below.refl _ _⟩
    · rw [lenN_pos b0] at lb
      have hc : cmpN 0 b = -1 := by unfold cmpN; rw [if_pos b0]
      rw [hc]
      go_enter Try.func71, Try.ntmps71
      go_wp2_with fail
      refine la.out.mono ?_
      rintro e w2 ⟨rfl, rfl⟩
      go_wp2_with fail
      refine lb.out.mono ?_
      rintro e w3 ⟨rfl, rfl⟩
      go_wp2
      go_ret
      exact ⟨rfl, Below.refl _ _⟩
  · rw [lenN_pos a0] at la
    rcases hb.cases with ⟨rfl, B, cb, rfl, _⟩ | ⟨b0, gb, ob, cb, rfl, hgb, hb1, hbc, zb⟩
    · rw [lenN_zero] at lb
      have hc : cmpN a 0 = 1 := by unfold cmpN; rw [if_neg (by omega), if_pos a0]
      rw [hc]
      go_enter Try.func71, Try.ntmps71
      go_wp2_with fail
      refine la.out.mono ?_
      rintro e w2 ⟨rfl, rfl⟩
      go_wp2_with fail
      refine lb.out.mono ?_
      rintro e w3 ⟨rfl, rfl⟩
      go_wp2
      go_ret
      exact ⟨rfl, Below.refl _ _⟩
    · rw [lenN_pos b0] at lb
      obtain ⟨c, hc⟩ : ∃ c, cmpN a b = c := ⟨_, rfl⟩
      rw [hc]
      have HC := hid hc
      clear hc
      go_enter Try.func71, Try.ntmps71
      go_wp2_with fail
      refine la.out.mono ?_
      rintro e w2 ⟨rfl, rfl⟩
      go_wp2_with fail
      refine lb.out.mono ?_
      rintro e w3 ⟨rfl, rfl⟩
      go_wp2
      refine wp_loop_rounds 2 ?_
      rw [rounds_succ]
      go_wp2
      rcases Nat.lt_trichotomy a b with h | h | h
      · obtain rfl : c = -1 := by rw [← HC.out]; unfold cmpN; rw [if_pos h]
        have h1 : (a : Int) < (b : Int) := by omega
        go_region
        all_goals
          go_wp2
          go_ret
          exact ⟨rfl, (Below.refl _ _).drew⟩
      · subst h
        obtain rfl : c = 0 := by rw [← HC.out]; unfold cmpN; rw [if_neg (by omega), if_neg (by omega)]
        go_region
        all_goals
          go_wp2
          go_region
          all_goals
            go_wp2
            rw [rounds_succ]
            go_wp2
            go_ret
            exact ⟨rfl, (Below.refl _ _).drew.drew⟩
      · obtain rfl : c = 1 := by rw [← HC.out]; unfold cmpN; rw [if_neg (by omega), if_pos h]
        have h1 : (b : Int) < (a : Int) := by omega
        go_region
        all_goals
          go_wp2
          go_region
          all_goals
            go_wp2
            go_ret
            exact ⟨rfl, (Below.refl _ _).drew.drew⟩
end
end Go.Proofs.Ytpoaadjhaknhdaa
