/- SameTexts. -/
import Derived.Test.YtegekmdechcikaaEPlat
namespace Go.Proofs.Ytegekmdechcikaa
open Go Go.RowKit Go.Sort

theorem Texts.form {w : World} {o : Own} {v : Value} {l : List ByteArray} (h : Texts w o v l) : ∃ A c, v = .slice A l.length c ∧ l.length ≤ maxLen ∧
    (0 < l.length → ∃ g off, A = some ⟨g, off, none⟩ ∧ ∀ k (hk : k < l.length), w.cell? ⟨g, off + k, none⟩ = some (.string l[k])) := by
  rcases h.2 with ⟨rfl, h0⟩ | ⟨g, off, cap, rfl, _, _, hn, hm, hc, _⟩
  · exact ⟨none, 0, by rw [h0], by omega, fun h => by omega⟩
  · refine ⟨_, cap, rfl, by omega, fun _ => ⟨g, off, rfl, fun k hk => hc k _ (by simp [strs, hk])⟩⟩
theorem Texts.drewN {w : World} {o : Own} {v : Value} {l : List ByteArray} (h : Texts w o v l) (n : Nat) : Texts (w.drewN n) o v l := OwnSl.below h (below_drew w n)

theorem str_eq (a : ByteArray) : (a.toList == a.toList) = true := by simp
theorem str_ne {a b : ByteArray} (h : a ≠ b) : (a.toList == b.toList) = false := by
  rw [beq_eq_false_iff_ne, ByteArray.toList_eq, ByteArray.toList_eq]
  intro e
  apply h
  cases a; cases b
  simp only [Array.toList_inj] at e
  rw [e]
set_option maxRecDepth 100000 in
set_option maxHeartbeats 1000000 in
theorem same_texts {w : World} {o1 o2 : Own} {v1 v2 : Value} {l1 l2 : List ByteArray} (h1 : Texts w o1 v1 l1) (h2 : Texts w o2 v2 l2) (r : Bool) (hr : r = true ↔ l1 = l2) :
    Calls Try.prog 37 #[v1, v2] w fun e w' => e = .returned (.bool r) ∧ ∃ n, w' = w.drewN n := by
  obtain ⟨A1, c1, rfl, hm1, hf1⟩ := h1.form
  obtain ⟨A2, c2, rfl, hm2, hf2⟩ := h2.form
  unfold maxLen at hm1 hm2
  have HR := hid hr
  have HF1 := hid hf1
  have HF2 := hid hf2
  clear h1 h2 hr hf1 hf2
  by_cases hl : l1.length = l2.length
  · have HL := hid hl
    have hle : l1.length ≤ l2.length ∧ l2.length ≤ l1.length := by omega
    have hne : ((l1.length : Int) != (l2.length : Int)) = false := by rw [hl]; simp
    obtain ⟨hle1, hle2⟩ := hle
    clear hl
    go_enter Try.func37, Try.ntmps37
    go_wp2
    clear hne
    go_loopw [5] (fun i wr => ∃ k n : Nat, k ≤ l1.length ∧ i = .int .i64 k ∧ wr = w.drewN n ∧ Hid (l1.take k = l2.take k)) (fun i _ => (l1.length - intOf i).toNat)
    case atStart => exact ⟨0, 0, Nat.zero_le _, rfl, rfl, rfl⟩
    case round =>
      obtain ⟨k, n, hk, rfl, rfl, ht⟩ := hrel
      by_cases hlt : k < l1.length
      · obtain ⟨g1, off1, rfl, hc1⟩ := HF1.out (by omega)
        obtain ⟨g2, off2, rfl, hc2⟩ := HF2.out (by omega)
        have hlt2 : k < l2.length := by omega
        have d1 := hc1 k hlt
        have d2 := hc2 k hlt2
        clear hc1 hc2
        have hd1 : ∀ m, (w.drewN m).cell? ⟨g1, off1 + k, none⟩ = some (.string l1[k]) := fun m => d1
        have hd2 : ∀ m, (w.drewN m).cell? ⟨g2, off2 + k, none⟩ = some (.string l2[k]) := fun m => d2
        have htk := hid (show l1[k] = l2[k] → l1.take (k + 1) = l2.take (k + 1) from fun e => by rw [List.take_succ_eq_append_getElem hlt, List.take_succ_eq_append_getElem hlt2, ht.out, e])
        have hno := hid (show l1[k] ≠ l2[k] → r = false from fun e => by
          cases hh : r
          · rfl
          · have := HR.out.1 hh
            subst this
            exact absurd rfl e)
        have hx0 : (0 : Int) ≤ (k : Int) := by omega
        have hx1 : (k : Int) < (l1.length : Int) := by omega
        have hx2 : (k : Int) < (l2.length : Int) := by omega
        generalize l1[k] = x at *
        generalize l2[k] = y at *
        go_upto_region 6 with fail
        go_big_quiet (fail)
        by_cases hxy : x = y
        · subst hxy
          rw [show (!(x.toList == x.toList)) = false by rw [str_eq]; rfl]
          have ht2 := hid (htk.out rfl)
          clear htk hno ht
          go_wp2
          go_roundw
          case rel => exact ⟨k + 1, n + nq, by omega, by go_num, by simp, ht2⟩
          case measure => (simp [intOf]; try omega)
        · rw [show (!(x.toList == y.toList)) = true by rw [str_ne hxy]; rfl]
          have hrf := hid (hno.out hxy)
          clear htk hno ht hxy
          go_wp2
          go_ret
          exact ⟨by rw [hrf.out]; rfl, n + nq, by simp⟩
      · obtain rfl : k = l1.length := by omega
        have hrt : r = true := HR.out.2 (by have := ht.out; rwa [List.take_length, HL.out, List.take_length] at this)
        have HRT := hid hrt
        clear hrt
        go_wp2
        go_ret
        exact ⟨by rw [HRT.out]; rfl, n, rfl⟩
  · have hne : ((l1.length : Int) != (l2.length : Int)) = true := by rw [bne_iff_ne]; omega
    have hrf : r = false := by
      cases hh : r
      · rfl
      · exact absurd (congrArg List.length (HR.out.1 hh)) hl
    subst hrf
    clear hl
    go_enter Try.func37, Try.ntmps37
    go_wp2
    go_ret
    exact ⟨rfl, 0, rfl⟩
end Go.Proofs.Ytegekmdechcikaa
