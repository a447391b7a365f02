/- State of the reference. -/
import Derived.Test.YtegekmdechcikaaS16
namespace Go.Proofs.Ytegekmdechcikaa
open Go Go.RowKit Go.Sort

theorem slot_cases {S : Dv} {s : Int} (ho : S.online = true) : (S.slot s = false ∧ S.read s = (⟨#[]⟩, 5)) ∨ (S.slot s = true ∧ 0 ≤ s ∧ s < S.claim ∧ ((S.read s).2 = 107 ∨ (S.read s).2 = 0)) := by
  cases hs : S.slot s
  · left
    refine ⟨rfl, ?_⟩
    unfold Dv.read
    rw [if_neg (by rw [ho]; simp), if_pos hs]
  · right
    have h2 := hs
    unfold Dv.slot at h2
    rw [decide_eq_true_eq] at h2
    refine ⟨rfl, h2.1, h2.2, ?_⟩
    unfold Dv.read
    rw [if_neg (by rw [ho]; simp), if_neg (by rw [hs]; simp)]
    split
    · exact .inl rfl
    · exact .inr rfl
section
variable {w : World} {o : Own} {a : Nat} {S : Dv}
set_option maxRecDepth 100000 in
set_option maxHeartbeats 2000000 in
theorem state_ref (h : Ref w o a S) (hS : S.Ok) (q : Wt) :
    Calls Try.prog 36 #[.pointer (some ⟨a, 0, none⟩), q.val] w fun e w' => e = .returned (.int .i64 (stateOf S q)) ∧ Below w.heap.size w w' := by
  have hb1 : Below w.heap.size w (w.alloc (.cells #[.int .i64 q.slot, .int .i64 q.pc.vol, .int .i64 q.pc.frag, .int .i64 q.pc.stripe, .int .i64 q.pc.gen, .int .i64 q.pc.ver, .string q.pc.data] 36)) := (Below.refl _ _).alloc (Nat.le_refl _) _
  have HG1 := hid (heap_alloc_new w (.cells #[Value.int .i64 q.slot, .int .i64 q.pc.vol, .int .i64 q.pc.frag, .int .i64 q.pc.stripe, .int .i64 q.pc.gen, .int .i64 q.pc.ver, .string q.pc.data] 36))
  have H1 := hid (h.below hb1)
  have HB1 := hid hb1
  have HS := hid hS
  have hsm := read_small hS q.slot
  clear h hS hb1
  obtain ⟨z0, z2⟩ := H1.out.slots_on
  obtain ⟨st, hst⟩ : ∃ st, stateOf S q = st := ⟨_, rfl⟩
  rw [hst]
  unfold stateOf at hst
  go_enter Try.func36, Try.ntmps36
  go_upto_region 1 with fail
  generalize w.alloc (.cells #[.int .i64 q.slot, .int .i64 q.pc.vol, .int .i64 q.pc.frag, .int .i64 q.pc.stripe, .int .i64 q.pc.gen, .int .i64 q.pc.ver, .string q.pc.data] 36) = w1 at *
  have hwq : w.heap.size < w1.heap.size := (Array.getElem?_eq_some_iff.1 HG1.out).1
  have p0 := cell_block HG1.out 0
  simp only [List.getElem?_toArray, List.getElem?_cons_zero] at p0
  cases ho : S.online
  case false =>
    rw [read_off ho, if_pos rfl] at hst
    subst hst
    rw [ho] at z2
    clear ho
    go_wp2
    go_ret
    exact ⟨rfl, HB1.out⟩
  case true =>
    rw [ho] at z2
    rcases slot_cases ho (s := q.slot) with ⟨hs, hr⟩ | ⟨hs, h0, h1, hr⟩
    · rw [hr, if_neg (by simp), if_pos rfl] at hst
      subst hst
      unfold Dv.slot at hs
      rw [decide_eq_false_iff_not] at hs
      clear hr ho hsm
      have hpq : ∀ n, (w1.drewN n).cell? ⟨w.heap.size, 0, none⟩ = some (.int .i64 q.slot) := fun _ => p0
      have hzq : ∀ n, (w1.drewN n).cell? ⟨a, 0, none⟩ = some (.int .i64 S.claim) := fun _ => z0
      by_cases hn : q.slot < 0
      · have hd := decide_eq_true hn
        clear hs hn
        go_upto_region 3 with fail
        go_big_quiet (fail)
        go_wp2
        go_ret
        exact ⟨rfl, below_drewN HB1.out _⟩
      · have hd := decide_eq_false hn
        have hge : S.claim ≤ q.slot := by omega
        clear hs hn
        go_upto_region 3 with fail
        go_big_quiet (fail)
        go_wp2
        go_ret
        exact ⟨rfl, below_drewN HB1.out _⟩
    · have hpq : ∀ n, (w1.drewN n).cell? ⟨w.heap.size, 0, none⟩ = some (.int .i64 q.slot) := fun _ => p0
      have hzq : ∀ n, (w1.drewN n).cell? ⟨a, 0, none⟩ = some (.int .i64 S.claim) := fun _ => z0
      have hd := decide_eq_false (show ¬ q.slot < 0 by omega)
      have hd2 := decide_eq_false (show ¬ S.claim ≤ q.slot by omega)
      clear hs ho h0 h1
      go_upto_region 3 with fail
      go_big_quiet (fail)
      have H1n := hid (H1.out.below (below_drewN (Below.refl _ _) nq))
      have HB1n := hid (below_drewN HB1.out nq)
      have HG1n := hid (show (w1.drewN nq).heap[w.heap.size]? = _ from HG1.out)
      have hwqn : w.heap.size < (w1.drewN nq).heap.size := hwq
      have p0n : (w1.drewN nq).cell? ⟨w.heap.size, 0, none⟩ = some (.int .i64 q.slot) := p0
      clear p0 z0 hd hd2 H1 HB1 HG1 hwq z2 hpq hzq
      generalize w1.drewN nq = w1' at *
      go_wp2_with fail
      refine (ref_read_b H1n.out HS.out q.slot).mono ?_
      rintro e w2 ⟨rfl, hb2⟩
      generalize (S.read q.slot).1 = x at *
      generalize (S.read q.slot).2 = er at *
      have hw2 := HB1n.out.trans (hb2.mono (Nat.le_of_lt hwqn))
      have HG2 := hid ((hb2.block _ hwqn).trans HG1n.out)
      have hwq2 : w.heap.size < w2.heap.size := Nat.lt_of_lt_of_le hwqn hb2.size
      clear p0n hb2 HB1n HG1n H1n
      rcases hr with he | he
      · subst he
        rw [if_neg (by decide), if_neg (by decide), if_pos (by decide)] at hst
        subst hst
        go_wp2
        go_ret
        exact ⟨rfl, hw2⟩
      · subst he
        rw [if_neg (by decide), if_neg (by decide), if_neg (by decide)] at hst
        unfold seen at hst
        go_wp2_with fail
        refine (dec_ref x _ (by unfold maxLen; omega)).mono ?_
        rintro e w3 ⟨rfl, hb3⟩
        rw [decCells_eq]
        have hw3 := hw2.trans (hb3.mono (Nat.le_of_lt hwq2))
        have HG3 := hid ((hb3.block _ hwq2).trans HG2.out)
        have hwq3 : w.heap.size < w3.heap.size := Nat.lt_of_lt_of_le hwq2 hb3.size
        clear hb3 HG2 hw2
        generalize pieceOf x.data.toList = p at *
        generalize errOf x.data.toList = ed at *
        by_cases h2 : ed = 102
        · rw [if_pos h2] at hst
          subst hst
          subst h2
          go_wp2
          go_ret
          exact ⟨rfl, hw3.alloc hw3.size _⟩
        · rw [if_neg h2] at hst
          have g2 := beq_f h2
          by_cases h0 : ed = 0
          · rw [if_neg (by simp [h0])] at hst
            have g0 := bne_f h0
            clear h2 h0
            subst hst
            have z1 := cell_block HG3.out 1
            have z2 := cell_block HG3.out 2
            have z3 := cell_block HG3.out 3
            have z4 := cell_block HG3.out 4
            have z5 := cell_block HG3.out 5
            have z6 := cell_block HG3.out 6
            simp only [List.getElem?_toArray, List.getElem?_cons_zero, List.getElem?_cons_succ] at z1 z2 z3 z4 z5 z6
            go_wp2_with fail
            refine (found_ref p q.pc _).mono ?_
            rintro e w4 ⟨rfl, hb4⟩
            have hb5 := hw3.alloc hw3.size (.cells p.cells.toArray 23)
            have HW := hid (hb5.trans (hb4.mono hb5.size))
            clear z1 z2 z3 z4 z5 z6 hb4 hb5 hw3 HG3
            go_wp2
            go_ret
            exact ⟨rfl, HW.out⟩
          · rw [if_pos h0] at hst
            subst hst
            have g0 := bne_t h0
            clear h2 h0
            go_wp2
            go_ret
            exact ⟨rfl, hw3.alloc hw3.size _⟩
end
end Go.Proofs.Ytegekmdechcikaa
