/- ScrubMeasures. -/
import Derived.Test.YtegekmdechcikaaSC
namespace Go.Proofs.Ytegekmdechcikaa
open Go Go.RowKit Go.Sort

theorem no_ops (w : World) : OpsAt w (.slice none 0 0) [] := ⟨rfl, by unfold maxLen; simp, none, 0, rfl, fun h => by simp at h⟩
theorem Fine.up {S : Dv} {n m : Nat} {t : Int} (h : Fine S n m 0) (ht : 0 ≤ t) : Fine S n m t := ⟨h.ok, h.claim, h.real, h.on, h.pend, by have := h.term; omega⟩
theorem Ref.sectors {w : World} {o : Own} {a : Nat} {S : Dv} (h : Ref w o a S) : ∃ b c, w.cell? ⟨a, 1, none⟩ = some (.slice (some ⟨b, 0, none⟩) S.secs.length c) := by
  obtain ⟨R, ⟨p, b, c, pv, h⟩, hr⟩ := h
  refine ⟨b, c, ?_⟩
  have := h.cells.2.1
  rwa [hr.len] at this
theorem platters_blank {S : Dv} {n m : Nat} {t : Int} (h : Fine S n m t) (hs : S.secs = List.replicate m blankSec) : S.platters = List.replicate m blank := by
  have hd : S.dead = false := by
    have := h.on
    unfold Dv.online at this
    cases hx : S.dead
    · rfl
    · rw [hx] at this; simp at this
  unfold Dv.platters
  rw [if_neg (by rw [hd]; simp), hs, List.map_replicate]
  rfl
theorem Texts.blanks {w : World} {o : Own} {v : Value} {m : Nat} (h : Texts w o v (List.replicate m blank)) : ∃ A c, v = .slice A m c ∧ m ≤ maxLen ∧ (0 < m → ∃ g off, A = some ⟨g, off, none⟩ ∧ g < w.heap.size ∧ ∀ k, k < m → w.cell? ⟨g, off + k, none⟩ = some (.string blank)) := by
  obtain ⟨A, c, e, hm, hf⟩ := h.form
  rw [List.length_replicate] at e hm
  refine ⟨A, c, e, hm, fun h0 => ?_⟩
  obtain ⟨g, off, e, hc⟩ := hf (by simpa using h0)
  have hcc : ∀ k, k < m → w.cell? ⟨g, off + k, none⟩ = some (.string blank) := fun k hk => by
    have := hc k (by simpa using hk)
    simpa using this
  exact ⟨g, off, e, World.block_lt_of_cell? w _ (hcc 0 h0), hcc⟩
set_option maxRecDepth 100000 in
set_option maxHeartbeats 4000000 in
theorem law_measures (c r t : Int) (v : Value) (l : List Hd) (w : World) (hl : HeldsAt w v l) :
    Calls Try.prog 6 #[.int .i64 c, .int .i64 r, .int .i64 t, v] w fun e w' => e = .returned (.bool true) ∧ Below w.heap.size w w' := by
  have HL := hid hl
  clear hl
  go_enter Try.func6, Try.ntmps6
  go_wp2_with fail
  refine (light27_any HL.out (no_ops w)).mono ?_
  rintro e w1 ⟨lr, rfl, hlr, rfl⟩
  cases lr
  case false =>
    go_wp2_with (go_at_call 17; refine (awake27 _).mono ?_; rintro e w2 ⟨rfl, hb2⟩)
    go_ret
    exact ⟨rfl, hb2⟩
  case true =>
    obtain ⟨h60, hsm, _⟩ := hlr rfl
    have HSM := hid hsm
    clear hlr hsm
    by_cases ht : t < 0
    · go_wp2_with (go_at_call 17; refine (awake27 _).mono ?_; rintro e w2 ⟨rfl, hb2⟩)
      go_ret
      exact ⟨rfl, hb2⟩
    · have ht0 : 0 ≤ t := by omega
      go_wp2_with fail
      refine (prepared_any c r (clean := True) HL.out (no_ops _) HSM.out h60 (by simp) (fun _ => rfl)).mono ?_
      rintro e w1 ⟨a, b, o1, o2, S, rfl, hbo, hok, _, hab, hb1, hfi⟩
      have hfi := (hfi trivial).up ht0
      obtain ⟨m1, m2, m3, m4⟩ := mk_ok c r
      clear m4
      obtain ⟨F, hcap, hF, hFt, hFs⟩ := cap_fine hfi m1 (by omega) (by omega)
      have hpl := platters_blank hF hFs
      have hreal := hfi.real
      clear m2 m3
      generalize mkR c r = m at *
      generalize (mkC c).toNat = n at *
      have hb2 : Below w1.heap.size w1 (w1.alloc (.cells #[.pointer (some ⟨a, 0, none⟩), .pointer (some ⟨b, 0, none⟩)] 54)) := (Below.refl _ _).alloc (Nat.le_refl _) _
      have HBX := hid (show PairBox (w1.alloc (.cells #[.pointer (some ⟨a, 0, none⟩), .pointer (some ⟨b, 0, none⟩)] 54)) w1.heap.size a b from heap_alloc_new w1 _)
      have HBO := hid (hbo.below hb2)
      have HNQ := hid (show ¬ Or o1 o2 w1.heap.size from fun e => by have := hbo.under _ e; omega)
      have HAB := hid hab
      have hw2 := hb1.trans (hb2.mono hb1.size)
      have OK := hid (And.intro hok hF.ok)
      have HC := hid hcap
      have HP := hid hpl
      have HFT := hid hFt
      have HFO := hid hF.on
      have hfld := fun W => field_term F.online F.dead F.term W
      rw [HFT.out] at hfld
      clear hb1 hb2 hbo hab hok hcap hpl hF hFt hFs hfi
      go_upto_region 4 with fail
      generalize w1.alloc (.cells #[.pointer (some ⟨a, 0, none⟩), .pointer (some ⟨b, 0, none⟩)] 54) = w2 at *
      generalize w1.heap.size = q at *
      have z0 := HBX.out.cells.1
      go_wp2_with fail
      refine (capacity_any HBO.out.drv OK.out.1 t).mono ?_
      rintro e w3 ⟨rfl, hd3, hf3⟩
      rw [HC.out] at hd3 ⊢
      have HD3 := hid hd3
      have HBX3 := hid (HBX.out.fr hf3 (fun e => HNQ.out (.inl e)))
      have HR3 := hid (HBO.out.ref.fr hf3 HBO.out.apart.symm)
      have hw3 := below_of_fr hw2 hf3 (fun k e => HAB.out k (.inl e)) hw2.size
      clear hd3 hf3 HBX HBO hw2 z0
      have z0 := HBX3.out.cells.1
      go_wp2_with fail
      refine (platters_e HD3.out OK.out.2).mono ?_
      rintro e w4 ⟨v4, rfl, ht4, hb4⟩
      rw [HP.out] at ht4
      obtain ⟨A4, c4, rfl, hm4, hf4⟩ := ht4.blanks
      have HF4 := hid hf4
      have HD4 := hid (HD3.out.below hb4)
      have HBX4 := hid (HBX3.out.below hb4)
      have HR4 := hid (HR3.out.below hb4)
      have hw4 := hw3.trans (hb4.mono hw3.size)
      unfold maxLen at hm4
      clear hf4 ht4 hb4 HD3 HBX3 HR3 hw3 z0
      have z1 := HBX4.out.cells.2
      obtain ⟨rb, rc, z2⟩ := HR4.out.sectors
      rw [hreal] at z2
      have HR := hid hreal
      clear hreal
      have hs := int_self (m : Int)
      go_upto_region 10 with fail
      clear z1 z2
      go_wp2_with fail
      go_loopw [14] (fun i wr => ∃ (k : Nat), k ≤ m ∧ i = .int .i64 k ∧ Hid (Below w4.heap.size w4 wr)) (fun i _ => (m - intOf i).toNat)
      case atStart => exact ⟨0, Nat.zero_le _, rfl, Below.refl _ _⟩
      case round =>
        obtain ⟨k, hk, rfl, HB⟩ := hrel
        by_cases hlt : k < m
        · obtain ⟨g, off, rfl, hgl, hcc⟩ := HF4.out (by omega)
          have HCK := hid (fun (W : World) (hW : Below w4.heap.size w4 W) => (hW.cell (p := ⟨g, off + k, none⟩) hgl).trans (hcc k hlt))
          clear hcc
          have hx0 : (0 : Int) ≤ (k : Int) := by omega
          have hx1 : (k : Int) < (m : Int) := by omega
          go_upto_region 13 with fail
          have HBD := hid (HB.out.trans ((Below.refl wr.heap.size wr).drew.mono HB.out.size))
          clear HB
          go_region_held3 (fun w' => w'.cell? ⟨g, off + k, none⟩ = some (.string blank))
            (exact HCK.out _ HBD.out)
            ((go_at_call 28; refine (blank_b _).mono ?_; rintro e wx ⟨rfl, hbx⟩; replace HBD := hid (HBD.out.trans (hbx.mono HBD.out.size)); clear hbx))
          have hse := str_eq blank
          go_wp2
          go_roundw
          case rel => exact ⟨k + 1, by omega, by go_num, HBD⟩
          case measure => (simp [intOf]; try omega)
        · obtain rfl : k = m := by omega
          have HD5 := hid (HD4.out.below HB.out)
          have HBX5 := hid (HBX4.out.below HB.out)
          have hw5 := hw4.trans (HB.out.mono hw4.size)
          clear HB hs
          go_wp2_with fail
          refine (awake27 _).mono ?_
          rintro e w6 ⟨rfl, hb6⟩
          have HD6 := hid (HD5.out.below hb6)
          have HBX6 := hid (HBX5.out.below hb6)
          have hw6 := hw5.trans (hb6.mono hw5.size)
          clear hb6 HD5 HBX5 hw5
          have z0 := HBX6.out.cells.1
          go_wp2_with fail
          refine (status_e HD6.out OK.out.2).mono ?_
          rintro e w7 ⟨rfl, hb7⟩
          rw [HFT.out]
          have hw7 := hw6.trans (hb7.mono hw6.size)
          clear hb7 HD6 z0 hw6
          have hs := int_self t
          go_wp2
          go_ret
          exact ⟨rfl, hw7⟩
end Go.Proofs.Ytegekmdechcikaa
