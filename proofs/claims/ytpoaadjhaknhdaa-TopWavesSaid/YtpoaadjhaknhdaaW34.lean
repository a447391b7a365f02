/- The maker: Tape.Next, name; facts that hold whatever a set of blocks becomes. -/
import Derived.Test.YtpoaadjhaknhdaaW33
namespace Go.Proofs.Ytpoaadjhaknhdaa
open Go Go.RowKit Go.Sort Go.Deep

/-- P holds in w, and in every later world that differs in the blocks of M alone. -/
def Sup (M : Own) (w : World) (P : World → Prop) : Prop := ∀ w', Fr M w w' → P w'
section
variable {M M' : Own} {w w' : World} {P Q : World → Prop}
theorem Sup.now (h : Sup M w P) : P w := h w (Fr.refl _ _)
theorem Sup.mv (h : Sup M w P) (hf : Mv M w M' w') : Sup M' w' P := fun w2 h2 => h w2 (hf.fr.trans hf.ext h2)
theorem Sup.fr (h : Sup M w P) (hf : Fr M w w') : Sup M w' P := fun w2 h2 => h w2 (hf.trans (fun _ e => .inl e) h2)
theorem Sup.below (h : Sup M w P) (hb : Below w.heap.size w w') : Sup M w' P := h.fr (.ofBelow hb)
theorem Sup.imp (h : Sup M w P) (k : ∀ w', P w' → Q w') : Sup M w Q := fun w' hf => k w' (h w' hf)
theorem Sup.less (h : Sup M w P) (k : ∀ x, M' x → M x) : Sup M' w P := fun w' hf => h w' (hf.mono k)
end
theorem One.sup {M : Own} {w : World} {v : Value} {a n : Nat} (h : One w v a) (hf : From n v) (hM : ∀ k, M k → k < n) : Sup M w fun w' => One w' v a := by
  intro w' hw
  rcases h.cases with ⟨rfl, A, c, rfl, hc, hA, hsp⟩ | ⟨h0, gb, off, c, rfl, e1, e2, e3, hz⟩
  · cases A with
    | none => rw [hA rfl]; exact One.nil _
    | some q =>
      obtain ⟨s1, s2⟩ := hsp q rfl
      obtain ⟨qb, qo, qs⟩ := q
      dsimp only at s1
      subst s1
      exact One.empty (Nat.lt_of_lt_of_le s2 hw.size) hc
  · have hn : ¬ M gb := fun e => by
      have := hM _ e
      have := hf _ _ _ rfl
      dsimp only at this
      omega
    exact One.mk (Nat.lt_of_lt_of_le e1 hw.size) e2 e3 h0 h.1 ((World.cell?_of_block (w := w) (a := ⟨gb, off, none⟩) (hw.block gb e1 hn)).trans hz)
/-- The tape: its list lies below its own block. -/
def TapeAt (w : World) (gt I : Nat) : Prop := ∃ (A : Option Addr) (n c : Nat) (l : List Int), w.heap[gt]? = some (.cells #[.slice A n c, .int .i64 (I : Int)] 25 (0, 0)) ∧ l.length = n ∧
  (0 < n → ∃ g off, A = some ⟨g, off, none⟩ ∧ g < gt ∧ ∀ j (h : j < l.length), w.cell? ⟨g, off + j, none⟩ = some (.int .i64 l[j]))
theorem TapeAt.lt {w : World} {gt I : Nat} (h : TapeAt w gt I) : gt < w.heap.size := by
  obtain ⟨A, n, c, l, h1, _⟩ := h
  exact (Array.getElem?_eq_some_iff.1 h1).1
theorem TapeAt.fr {M : Own} {w w' : World} {gt I : Nat} (h : TapeAt w gt I) (hf : Fr M w w') (hM : ∀ k, M k → gt < k) : TapeAt w' gt I := by
  have hlt := h.lt
  obtain ⟨A, n, c, l, h1, h2, h3⟩ := h
  refine ⟨A, n, c, l, (hf.block gt hlt (fun e => by have := hM _ e; omega)).trans h1, h2, fun h0 => ?_⟩
  obtain ⟨g, off, e, hg, h4⟩ := h3 h0
  exact ⟨g, off, e, hg, fun j hj => (World.cell?_of_block (w := w) (a := ⟨g, off + j, none⟩) (hf.block g (by omega) (fun e => by have := hM _ e; omega))).trans (h4 j hj)⟩
theorem TapeAt.below {w w' : World} {gt I : Nat} (h : TapeAt w gt I) (hb : Below w.heap.size w w') : TapeAt w' gt I := h.fr (M := NoOwn) (.ofBelow hb) (fun _ e => e.elim)
abbrev Just (g : Nat) : Own := fun k => k = g
def NextPost (w w' : World) (gt I n : Nat) (e : Ending) : Prop := ∃ r : Nat, r < n ∧ e = .returned (.int .i64 (r : Int)) ∧ TapeAt w' gt (I + 1) ∧ Fr (Just gt) w w'
theorem tmod_lo (x : Int) (n : Nat) (h : 1 ≤ n) : -(n : Int) < x.tmod n := by
  have := Int.lt_tmod_of_pos x (show (0 : Int) < n by omega)
  exact this
theorem tmod_hi (x : Int) (n : Nat) (h : 1 ≤ n) : x.tmod n < (n : Int) := Int.tmod_lt_of_pos x (by omega)
theorem next_post {w : World} {gt I k c : Nat} {A : Option Addr} {l : List Int} (hg : w.heap[gt]? = some (.cells #[.slice A k c, .int .i64 (I : Int)] 25 (0, 0))) (hk : l.length = k)
    (hl : 0 < k → ∃ g off, A = some ⟨g, off, none⟩ ∧ g < gt ∧ ∀ j (h : j < l.length), w.cell? ⟨g, off + j, none⟩ = some (.int .i64 l[j])) (m : Nat) :
    TapeAt ((w.setCell ⟨gt, 1, none⟩ (.int .i64 ((I : Int) + 1))).drewN m) gt (I + 1) ∧ Fr (Just gt) w ((w.setCell ⟨gt, 1, none⟩ (.int .i64 ((I : Int) + 1))).drewN m) := by
  have hf : Fr (Just gt) w ((w.setCell ⟨gt, 1, none⟩ (.int .i64 ((I : Int) + 1))).drewN m) := ((Fr.refl (Just gt) w).setCell ⟨gt, 1, none⟩ _ (.inl rfl)).drewN m
  have hb := (Array.getElem?_eq_some_iff.1 hg).1
  refine ⟨⟨A, k, c, l, ?_, hk, fun h0 => ?_⟩, hf⟩
  · have := heap_setCell_same w gt 1 _ _ (.int .i64 ((I : Int) + 1)) hg
    exact this
  · obtain ⟨g, off, e, hgl, hz⟩ := hl h0
    exact ⟨g, off, e, hgl, fun j hj => (World.cell?_of_block (w := w) (a := ⟨g, off + j, none⟩) (hf.block g (by omega) (fun e => by have : g = gt := e; omega))).trans (hz j hj)⟩
set_option maxRecDepth 100000 in
set_option maxHeartbeats 1600000 in
theorem next_any {w : World} {gt I : Nat} (h : TapeAt w gt I) (hI : I ≤ 1000000) (n : Nat) (h1 : 1 ≤ n) (hn : n ≤ 1000) : Calls Try.prog 11 #[.pointer (some ⟨gt, 0, none⟩), .int .i64 (n : Int)] w fun e w' => NextPost w w' gt I n e := by
  have hlt := h.lt
  obtain ⟨A, k, c, l, hg, hk, hl⟩ := h
  have q0 : w.cell? ⟨gt, 0, none⟩ = some (.slice A k c) := cell_block hg 0
  have q1 : w.cell? ⟨gt, 1, none⟩ = some (.int .i64 (I : Int)) := cell_block hg 1
  have q2 : w.frozen? ⟨gt, 1, none⟩ = false := by simp [World.frozen?, hg]
  have HG := hid hg
  have HL := hid hl
  have HK := hid hk
  have hn1 : ¬ (n : Int) < 1 := by omega
  have hn0 : ((n : Int) == 0) = false := by rw [beq_eq_false_iff_ne]; omega
  clear hg hl hk
  have HP := hid (next_post HG.out HK.out HL.out)
  go_enter Try.func11, Try.ntmps11
  by_cases hlt2 : I < k
  · obtain ⟨g, off, rfl, hgl, hz⟩ := HL.out (by omega)
    have hz0 := hz I (by rw [HK.out]; exact hlt2)
    obtain ⟨x, hx⟩ : ∃ x, l[I]'(by rw [HK.out]; exact hlt2) = x := ⟨_, rfl⟩
    rw [hx] at hz0
    clear hz hx
    have hm1 := tmod_lo x n h1
    have hm2 := tmod_hi x n h1
    obtain ⟨m, hm⟩ : ∃ m, x.tmod (n : Int) = m := ⟨_, rfl⟩
    rw [hm] at hm1 hm2
    go_wp2
    go_region
    all_goals
      go_wp2
      go_region
      all_goals
        by_cases hm0 : m < 0
        · go_wp2
          go_ret
          exact ⟨(m + n).toNat, by omega, by rw [Int.toNat_of_nonneg (by omega)]; rfl, HP.out 2⟩
        · go_wp2
          go_ret
          exact ⟨m.toNat, by omega, by rw [Int.toNat_of_nonneg (by omega)]; rfl, HP.out 2⟩
  · obtain ⟨x, hx⟩ : ∃ x, (I : Int).tmod 3 = x := ⟨_, rfl⟩
    have hm1 := tmod_lo x n h1
    have hm2 := tmod_hi x n h1
    obtain ⟨m, hm⟩ : ∃ m, x.tmod (n : Int) = m := ⟨_, rfl⟩
    rw [hm] at hm1 hm2
    go_wp2
    go_region
    all_goals
      by_cases hm0 : m < 0
      · go_wp2
        go_ret
        exact ⟨(m + n).toNat, by omega, by rw [Int.toNat_of_nonneg (by omega)]; rfl, HP.out 1⟩
      · go_wp2
        go_ret
        exact ⟨m.toNat, by omega, by rw [Int.toNat_of_nonneg (by omega)]; rfl, HP.out 1⟩
theorem three_bytes (w : World) (x y z : Int) : ∃ s, (convert 84 9 (.slice (some ⟨w.heap.size, 0, none⟩) 3 3)).run Try.prog (w.alloc (.cells #[.int .u8 x, .int .u8 y, .int .u8 z] 5)) = .ok (.string s) (w.alloc (.cells #[.int .u8 x, .int .u8 y, .int .u8 z] 5)) := by
  refine ⟨_, (run_convert_bytes_string _ 84 9 5 _ 3 3 Try.underlying84 Try.underlying5 Try.underlying9).trans (run_bytesToString _ _ 3 3 [x, y, z] ?_)⟩
  refine run_loadCells_list (P := Try.prog) _ _ [.int .u8 x, .int .u8 y, .int .u8 z] (fun j v hj => ?_)
  rw [add_plain, cell_block (heap_alloc_new w _) (0 + j), Nat.zero_add, List.getElem?_toArray]
  exact hj
set_option maxRecDepth 100000 in
set_option maxHeartbeats 1600000 in
theorem name_any (c : Nat) (n : Nat) (hn : n ≤ 1000) (w : World) : Calls Try.prog 14 #[.int .u8 (c : Int), .int .i64 (n : Int)] w fun e w' => ∃ s, e = .returned (.string s) ∧ Below w.heap.size w w' := by
  obtain ⟨s, hs⟩ := three_bytes w (c : Int) (97 + (n : Int) / 26 % 26) (97 + (n : Int) % 26)
  go_enter Try.func14, Try.ntmps14
  go_wp2
  go_ret
  exact ⟨_, rfl, (Below.refl _ _).alloc (Nat.le_refl _) _⟩
end Go.Proofs.Ytpoaadjhaknhdaa
