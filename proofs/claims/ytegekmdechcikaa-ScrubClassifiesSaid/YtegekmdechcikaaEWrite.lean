/- wipe, New, Write, Erase. -/
import Derived.Test.YtegekmdechcikaaEOps
namespace Go.Proofs.Ytegekmdechcikaa
open Go Go.RowKit Go.Sort

set_option maxHeartbeats 1000000 in
theorem wipe_c (a b n c : Nat) (l : List Sec) (w : World) (hn : n = l.length) (hm : n ≤ 1000000) (hcap : n ≤ c)
    (hc : w.cell? ⟨a, 1, none⟩ = some (.slice (some ⟨b, 0, none⟩) n c)) (hs : SecsAt w b l) (ha : a < w.heap.size) (hab : a ≠ b) :
    Calls Try.prog 38 #[.pointer (some ⟨a, 0, none⟩)] w fun e w' => e = .returned (.tuple #[]) ∧ SecsAt w' b (List.replicate n blankSec) ∧ w.grownBy w' (some b) := by
  go_enter Try.func38, Try.ntmps38
  go_wp2_with fail
  go_loopw [8] (fun i wr => ∃ k : Nat, k ≤ n ∧ i = .int .i64 k ∧ SecsAt wr b (wiped l k) ∧ w.grownBy wr (some b)) (fun i _ => (n - intOf i).toNat)
  case atStart => exact ⟨0, Nat.zero_le _, rfl, hs, grownBy_refl _ _⟩
  case round =>
    obtain ⟨k, hk, rfl, hr, hg⟩ := hrel
    by_cases hlt : k < n
    · have hcr : wr.cell? ⟨a, 1, none⟩ = some (.slice (some ⟨b, 0, none⟩) n c) := by
        rw [World.cell?_of_block (w := w) (a := ⟨a, 1, none⟩) (hg.block a ha (by intro e; exact hab (Option.some.inj e)))]; exact hc
      go_wp2_with fail
      refine wp_region_quiet_tail 7 (fun w' => ∃ p : Regrown, w' = grow (redrawn wr p.d) p.os) ⟨⟨wr.drawn + 1, #[]⟩, by rw [grow_empty]; rfl⟩ (by kernel_rfl) (by kernel_rfl) ?_
      simp only [List.take_succ_cons, List.take_zero, List.drop_succ_cons, List.drop_zero]
      have hcg := fun d os => cell_regrown hcr d os
      repeat (go_big_quiet_step ((go_at_call 64; exact Calls.regrown_of (zero_any _))))
      refine wpQuiet_nil ?_
      rintro _ ⟨q, rfl⟩
      have hb2 := below_regrown wr q.d q.os
      have hr2 := hr.below hb2 hr.lt
      have hg2 := grown_below hg hb2
      generalize grow (redrawn wr q.d) q.os = w2 at hb2 hr2 hg2 ⊢
      have hkl : k < (wiped l k).length := by rw [wiped_length l k (by omega)]; omega
      have hst := hr2.store k blankSec hkl
      have hth := hr2.free k hkl
      rw [wiped_set l k (by omega)] at hst
      clear hcg hcr hr hr2 hb2 hs hc
      go_wp2_with (refine wpList_store_mid rfl 97 (.tmp 18) (.tmp 17) rfl b (k * 3) #[.string blank, .bool false, .bool false] rfl rfl hth cell_size (sec_one _ _ _) ?_)
      go_roundw
      case rel => exact ⟨k + 1, by omega, by go_num, hst, grown_setCells _ _ _ hg2⟩
      case measure => (simp [intOf]; try omega)
    · obtain rfl : k = n := by omega
      go_wp2
      go_end0
      refine ⟨rfl, hr.eq ?_, hg⟩
      unfold wiped
      rw [hn, List.drop_length, List.append_nil]

/-- A new drive. -/
def newDv (c : Int) (r : Nat) : Dv := ⟨c, List.replicate r blankSec, false, false, 0, []⟩
theorem newDv_ok (c : Int) (r : Nat) (h1 : 1 ≤ r) (h2 : (r : Int) ≤ c) (h3 : c ≤ 128) : (newDv c r).Ok :=
  ⟨by simpa [newDv] using h1, by simpa [newDv] using h2, h3, fun s hs => by rw [(List.mem_replicate.1 hs).2]; rfl, fun f hf => by simp [newDv] at hf⟩
theorem new_e (c : Int) (r : Nat) (w : World) (h1 : 1 ≤ r) (h2 : (r : Int) ≤ c) (h3 : c ≤ 128) :
    Calls Try.prog 11 #[.int .i64 c, .int .i64 r] w fun e w' => ∃ a, e = .returned (.tuple #[.pointer (some ⟨a, 0, none⟩), .int .i64 0]) ∧ Drv w' (Grow NoOwn w w') a (newDv c r) ∧ Below w.heap.size w w' := by
  refine (new_yes c r w h1 h2 h3).mono ?_
  rintro e w' ⟨a, b, ha, hb, rfl, hd, hbl⟩
  refine ⟨a, rfl, ⟨NoOwn, b, r, .slice none 0 0, ⟨by simpa [newDv, DS.vals] using hd.vals, hd.secs, hd.ne, OwnSl.nil _ _ _, fun e => e, fun e => e, fun _ e => e.elim, .inr ⟨ha, hd.vals.lt⟩, .inr ⟨hb, hd.secs.lt⟩, fun k e => ?_, ?_⟩⟩, hbl⟩
  · rcases e with e | e
    · exact e.elim
    · exact e.2
  · unfold maxLen; simp [newDv]; omega

theorem flt_size : (Try.prog.info? 43).map (·.size) = some 5 := by kernel_rfl
theorem Try.info_flt : (Try.prog.info? 43).map (fun i => (i.zero, i.size, i.bytes)) = some (some (.agg #[.int .i64 0, .int .i64 0, .int .i64 0, .int .i64 0, .int .i64 0]), 5, 40) := by kernel_rfl
theorem fltCells_cons (f : Flt) (r : List Flt) : fltCells (f :: r) = f.cells ++ fltCells r := rfl
/-- 's[1:]' of the pending faults. -/
theorem OwnSl.tail {w : World} {p : Own} {g off cap : Nat} {f : Flt} {r : List Flt} (h : OwnSl w p 5 (.slice (some ⟨g, off, none⟩) (r.length + 1) cap) (r.length + 1) (fltCells (f :: r))) :
    OwnSl w p 5 (.slice (if cap = 1 then some ⟨g, off, none⟩ else some ⟨g, off + 5, none⟩) r.length (cap - 1)) r.length (fltCells r) := by
  obtain ⟨h1, h2⟩ := h
  rcases h2 with ⟨h2, _⟩ | ⟨g', off', cap', e, hp, hg, hn, hc, hcell, hfree⟩
  · cases h2
  · injection e with e1 _ e3
    injection e1 with e1
    injection e1 with e1 e2
    subst e1; subst e2; subst e3
    refine ⟨fltCells_length r, .inr ?_⟩
    by_cases h1c : cap = 1
    · rw [if_pos h1c]
      refine ⟨g, off, cap - 1, rfl, hp, hg, by omega, by omega, fun j u hu => ?_, fun j hj => hfree j (by omega)⟩
      have hr0 : r = [] := List.eq_nil_of_length_eq_zero (by omega)
      subst hr0
      simp [fltCells] at hu
    · rw [if_neg h1c]
      refine ⟨g, off + 5, cap - 1, rfl, hp, hg, by omega, by omega, fun j u hu => ?_, fun j hj => ?_⟩
      · have := hcell (5 + j) u (by
          rw [fltCells_cons, List.getElem?_append_right (by simp [Flt.cells])]
          simpa [Flt.cells] using hu)
        rwa [show off + (5 + j) = off + 5 + j by omega] at this
      · have := hfree (5 + j) (by omega)
        rwa [show off + (5 + j) = off + 5 + j by omega] at this
theorem OwnSl.head {w : World} {p : Own} {g off cap : Nat} {f : Flt} {r : List Flt} (h : OwnSl w p 5 (.slice (some ⟨g, off, none⟩) (r.length + 1) cap) (r.length + 1) (fltCells (f :: r))) :
    w.cell? ⟨g, off, none⟩ = some (.int .i64 f.kind) ∧ w.cell? ⟨g, off + 1, none⟩ = some (.int .i64 f.slot) ∧ w.cell? ⟨g, off + 2, none⟩ = some (.int .i64 f.bit) ∧ w.cell? ⟨g, off + 3, none⟩ = some (.int .i64 f.mask) ∧ w.cell? ⟨g, off + 4, none⟩ = some (.int .i64 f.dest) := by
  obtain ⟨h1, h2⟩ := h
  rcases h2 with ⟨h2, _⟩ | ⟨g', off', cap', e, hp, hg, hn, hc, hcell, hfree⟩
  · cases h2
  · injection e with e1 _ e3
    injection e1 with e1
    injection e1 with e1 e2
    subst e1; subst e2; subst e3
    exact ⟨hcell 0 _ rfl, hcell 1 _ rfl, hcell 2 _ rfl, hcell 3 _ rfl, hcell 4 _ rfl⟩

section
variable {w : World} {o p : Own} {a b c : Nat} {pv : Value} {S : Dv}
set_option maxHeartbeats 1000000 in
theorem write_nil (h : DrvB w o p a b c pv S) (hS : S.Ok) (hp : S.pend = []) (t s : Int) (d : ByteArray) :
    Calls Try.prog 15 #[.pointer (some ⟨a, 0, none⟩), .int .i64 t, .int .i64 s, .string d] w fun e w' => e = .returned (.int .i64 (S.write t s d).1) ∧ Drv w' o a (S.write t s d).2 ∧ Fr o w w' := by
  unfold Dv.write
  obtain ⟨c0, c1, c2, c3, c4, c5⟩ := h.cells
  have f4 := h.free 4 (by omega)
  have hstore : Dv.store { S with term := t } s d = { S with term := t, secs := S.secs.set (S.at_ s) ⟨d, false, false⟩ } := by unfold Dv.store; rw [hp]; rfl
  have HST := hid hstore
  have hpv := h.pend
  rw [hp] at hpv
  obtain ⟨A, cap, rfl, _⟩ := hpv.form
  have HH := hid h
  have HS := hid hS
  clear h hS hpv hstore hp
  cases ho : S.online
  · go_enter Try.func15, Try.ntmps15
    go_wp2_with (go_at_call 42; refine (online_any HH.out HS.out).mono ?_; rintro e w' ⟨rfl, rfl⟩; rw [ho])
    go_ret
    exact ⟨rfl, ⟨_, _, _, _, HH.out⟩, Fr.refl _ _⟩
  · by_cases ht : t < S.term
    · go_enter Try.func15, Try.ntmps15
      go_wp2_with (go_at_call 42; refine (online_any HH.out HS.out).mono ?_; rintro e w' ⟨rfl, rfl⟩; rw [ho])
      go_ret
      exact ⟨by simp, by simpa [ht] using ⟨_, _, _, _, HH.out⟩, Fr.refl _ _⟩
    · cases hsl : S.slot s
      · go_enter Try.func15, Try.ntmps15
        go_wp2_with (first | (go_at_call 42; refine (online_any HH.out HS.out).mono ?_; rintro e w' ⟨rfl, rfl⟩; rw [ho]) | (go_at_call 43; refine (slot_any HH.out s).mono ?_; rintro e w' ⟨rfl, rfl⟩; rw [hsl]))
        go_ret
        exact ⟨by simp, by simpa [ht] using ⟨_, _, _, _, HH.out⟩, Fr.refl _ _⟩
      · by_cases hd : d.size = 36
        · have hs0 := slot_some hsl
          go_enter Try.func15, Try.ntmps15
          go_wp2_with (first | (go_at_call 42; refine (online_any HH.out HS.out).mono ?_; rintro e w' ⟨rfl, rfl⟩; rw [ho]) | (go_at_call 43; refine (slot_any HH.out s).mono ?_; rintro e w' ⟨rfl, rfl⟩; rw [hsl]))
          have h1 := HH.out.term t
          have HT := hid h1
          have hk1 : Fr o w (w.setCell ⟨a, 4, none⟩ (.int .i64 t)) := (Fr.refl o w).setCell _ _ (.inl HH.out.oa)
          have HK := hid hk1
          clear h1 hk1
          refine (cell_any HT.out (HS.out.same rfl rfl (fun _ e => e)) s hs0).mono ?_
          rintro e w' ⟨rfl, n1, rfl⟩
          have hk : S.at_ s < S.secs.length := S.at_lt HS.out s
          have hth := (HT.out.drewN n1).secs.free (S.at_ s) hk
          go_wp2_with (refine wpList_store_mid rfl 97 (.tmp 64) (.tmp 63) rfl b (S.at_ s * 3) #[.string d, .bool false, .bool false] rfl rfl hth cell_size (sec_one _ _ _) ?_)
          go_ret
          refine ⟨by simp, ?_, Fr.setCells (.inl HH.out.ob) _ _ _ (HK.out.drewN n1)⟩
          have := (HT.out.drewN n1).write (S.at_ s) ⟨d, false, false⟩ hk
          simp only [HST.out]
          exact ⟨_, _, _, _, this⟩
        · go_enter Try.func15, Try.ntmps15
          go_wp2_with (first | (go_at_call 42; refine (online_any HH.out HS.out).mono ?_; rintro e w' ⟨rfl, rfl⟩; rw [ho]) | (go_at_call 43; refine (slot_any HH.out s).mono ?_; rintro e w' ⟨rfl, rfl⟩; rw [hsl]))
          go_ret
          exact ⟨by simp, by simpa [ht, hd] using ⟨_, _, _, _, HH.out⟩, Fr.refl _ _⟩
end
end Go.Proofs.Ytegekmdechcikaa
