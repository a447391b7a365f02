/- zero, wipe, New of the drive. -/
import Derived.Test.YtgeopgibjmhehaaDBase
import Derived.Test.YtgeopgibjmhehaaRepeat
namespace Go.Proofs.Ytgeopgibjmhehaa
open Go Go.RowKit Go.Sort

def blank : ByteArray := ⟨(zeros 36).toArray⟩
def blankSec : Sec := ⟨blank, false, false⟩
theorem zero_any (w : World) : Calls Try.prog 35 #[] w fun e w' => e = .returned (.string blank) ∧ Below w.heap.size w w' := by
  go_enter Try.func35, Try.ntmps35
  go_wp2_with (go_at_call 40; refine (rep_main ⟨#[0]⟩ 36 w (by decide) (by decide) (by decide) (by decide)).mono ?_; rintro e w' ⟨rfl, hb⟩)
  go_ret
  exact ⟨rfl, hb⟩

theorem cell_size : (Try.prog.info? 67).map (·.size) = some 3 := by kernel_rfl
theorem sec_one (d : ByteArray) (x y : Bool) : (#[Value.string d, .bool x, .bool y]).all (·.oneCell') = true := by kernel_rfl
/-- What the cells hold after k rounds of wipe. -/
def wiped (l : List Sec) (k : Nat) : List Sec := List.replicate k blankSec ++ l.drop k
theorem wiped_length (l : List Sec) (k : Nat) (h : k ≤ l.length) : (wiped l k).length = l.length := by simp [wiped]; omega
theorem wiped_set (l : List Sec) (k : Nat) (h : k < l.length) : (wiped l k).set k blankSec = wiped l (k + 1) := by
  unfold wiped
  rw [List.set_append, if_neg (by simp), List.length_replicate, Nat.sub_self, List.drop_eq_getElem_cons h, List.set_cons_zero, List.replicate_succ', List.append_assoc]
  rfl

theorem grown_below {w w1 w2 : World} {b : Nat} (h : w.grownBy w1 (some b)) (hb : Below w1.heap.size w1 w2) : w.grownBy w2 (some b) :=
  grownBy_trans h ⟨hb.os, hb.tape, hb.output, hb.size, fun k hk _ => hb.block k hk⟩
theorem grown_setCells {w : World} {b : Nat} : ∀ (cs : List Value) (o : Nat) (w1 : World), w.grownBy w1 (some b) → w.grownBy (w1.setCells b o cs) (some b)
  | [], _, _, h => h
  | v :: r, o, _, h => grown_setCells r (o + 1) _ (grownBy_set h o v)

set_option maxHeartbeats 1000000 in
theorem wipe_any (a b n : Nat) (l : List Sec) (w : World) (hn : n = l.length) (hm : n ≤ 1000000)
    (hc : w.cell? ⟨a, 1, none⟩ = some (.slice (some ⟨b, 0, none⟩) n n)) (hs : SecsAt w b l) (ha : a < w.heap.size) (hab : a ≠ b) :
    Calls Try.prog 21 #[.pointer (some ⟨a, 0, none⟩)] w fun e w' => e = .returned (.tuple #[]) ∧ SecsAt w' b (List.replicate n blankSec) ∧ w.grownBy w' (some b) := by
  go_enter Try.func21, Try.ntmps21
  go_wp2_with fail
  go_loopw [8] (fun i wr => ∃ k : Nat, k ≤ n ∧ i = .int .i64 k ∧ SecsAt wr b (wiped l k) ∧ w.grownBy wr (some b)) (fun i _ => (n - intOf i).toNat)
  case atStart => exact ⟨0, Nat.zero_le _, rfl, hs, grownBy_refl _ _⟩
  case round =>
    obtain ⟨k, hk, rfl, hr, hg⟩ := hrel
    by_cases hlt : k < n
    · have hcr : wr.cell? ⟨a, 1, none⟩ = some (.slice (some ⟨b, 0, none⟩) n n) := by
        rw [World.cell?_of_block (w := w) (a := ⟨a, 1, none⟩) (hg.block a ha (by intro e; exact hab (Option.some.inj e)))]; exact hc
      go_wp2_with fail
      refine wp_region_quiet_tail 7 (fun w' => ∃ p : Regrown, w' = grow (redrawn wr p.d) p.os) ⟨⟨wr.drawn + 1, #[]⟩, by rw [grow_empty]; rfl⟩ (by kernel_rfl) (by kernel_rfl) ?_
      simp only [List.take_succ_cons, List.take_zero, List.drop_succ_cons, List.drop_zero]
      have hcg := fun d os => cell_regrown hcr d os
      repeat (go_big_quiet_step ((go_at_call 35; exact Calls.regrown_of (zero_any _))))
      refine wpQuiet_nil ?_
      rintro _ ⟨q, rfl⟩
      have hb2 := below_regrown wr q.d q.os
      have hr2 := hr.below hb2 hr.lt
      have hg2 := grown_below hg hb2
      generalize grow (redrawn wr q.d) q.os = w2 at hb2 hr2 hg2 ⊢
      have hkl : k < (wiped l k).length := by rw [wiped_length l k (by omega)]; omega
      have hst := hr2.store k blankSec hkl
      have hth := hr2.free k hkl
      rw [wiped_set l k (by omega)] at hst
      clear hcg hcr hr hr2 hb2 hs hc
      go_wp2_with (refine wpList_store_mid rfl 67 (.tmp 18) (.tmp 17) rfl b (k * 3) #[.string blank, .bool false, .bool false] rfl rfl hth cell_size (sec_one _ _ _) ?_)
      go_roundw
      case rel => exact ⟨k + 1, by omega, by go_num, hst, grown_setCells _ _ _ hg2⟩
      case measure => (simp [intOf]; try omega)
    · obtain rfl : k = n := by omega
      go_wp2
      go_end0
      refine ⟨rfl, hr.eq ?_, hg⟩
      unfold wiped
      rw [hn, List.drop_length, List.append_nil]

theorem Try.info_cell : (Try.prog.info? 67).map (fun i => (i.zero, i.size, i.bytes)) = some (some (.agg #[.string ⟨#[]⟩, .bool false, .bool false]), 3, 24) := by kernel_rfl

set_option maxHeartbeats 1000000 in
theorem new_no (c r : Int) (w : World) (h : r < 1 ∨ c < r ∨ 128 < c) :
    Calls Try.prog 9 #[.int .i64 c, .int .i64 r] w fun e w' => e = .returned (.tuple #[.pointer none, .int .i64 5]) ∧ w = w' := by
  go_enter Try.func9, Try.ntmps9
  by_cases h1 : r < 1
  · go_wp2
    go_ret2
    exact ⟨rfl, rfl⟩
  · by_cases h2 : c < r
    · go_wp2
      go_ret2
      exact ⟨rfl, rfl⟩
    · have h3 : 128 < c := by omega
      go_wp2
      go_ret2
      exact ⟨rfl, rfl⟩

set_option maxRecDepth 100000 in
set_option maxHeartbeats 1000000 in
theorem new_yes (c : Int) (r : Nat) (w : World) (h1 : 1 ≤ r) (h2 : (r : Int) ≤ c) (h3 : c ≤ 128) :
    Calls Try.prog 9 #[.int .i64 c, .int .i64 r] w fun e w' => ∃ a b, w.heap.size ≤ a ∧ w.heap.size ≤ b ∧ e = .returned (.tuple #[.pointer (some ⟨a, 0, none⟩), .int .i64 0]) ∧ DrvAt w' a b ⟨c, List.replicate r blankSec, false, false, 0⟩ (.slice none 0 0) ∧ Below w.heap.size w w' := by
  obtain ⟨i0, hi, hz0, hz1, hz2⟩ := info_parts Try.info_cell
  have hrun := run_make (P := Try.prog) w 61 67 i0 _ Try.underlying61 hi hz0 .i64 .i64 r r (by omega) (Int.le_refl _) (by rw [hz2]; omega) (by omega)
  rw [Int.toNat_natCast, hz1, show (Value.agg #[.string ⟨#[]⟩, .bool false, .bool false]).cells = #[.string ⟨#[]⟩, .bool false, .bool false] from rfl] at hrun
  clear hi hz0 hz1 hz2
  have hsn := secs_new w r 67
  have hb0 : Below w.heap.size w (w.alloc (.cells (madeCells #[.string ⟨#[]⟩, .bool false, .bool false] (r * 3)) 67)) := (Below.refl _ _).alloc (Nat.le_refl _) _
  have hsz0 : (w.alloc (.cells (madeCells #[.string ⟨#[]⟩, .bool false, .bool false] (r * 3)) 67)).heap.size = w.heap.size + 1 := by simp
  generalize w.alloc (.cells (madeCells #[.string ⟨#[]⟩, .bool false, .bool false] (r * 3)) 67) = w1 at hrun hsn hb0 hsz0
  have HSN := hid hsn
  clear hsn
  go_enter Try.func9, Try.ntmps9
  go_wp2_with fail
  have hv := vals_new w1 [.int .i64 c, .slice (some ⟨w.heap.size, 0, none⟩) r r, .bool false, .bool false, .int .i64 0, .slice none 0 0] 64
  rw [hsz0] at hv
  have hsa := HSN.out.alloc (.cells #[.int .i64 c, .slice (some ⟨w.heap.size, 0, none⟩) r r, .bool false, .bool false, .int .i64 0, .slice none 0 0] 64)
  have hba := hb0.alloc hb0.size (.cells #[.int .i64 c, .slice (some ⟨w.heap.size, 0, none⟩) r r, .bool false, .bool false, .int .i64 0, .slice none 0 0] 64)
  refine (wipe_any (w.heap.size + 1) w.heap.size r (List.replicate r rawSec) _ (by simp) (by omega) (hv.cell 1 (by simp)) hsa hv.lt (by omega)).mono ?_
  rintro e w2 ⟨rfl, hs2, hg2⟩
  have hv2 := hv.grown hg2 (by omega)
  have hb2 : Below w.heap.size w w2 := below_grown hba hg2 hba.size (Nat.le_refl _)
  clear hv hsa hba hg2
  go_wp2
  go_ret2
  exact ⟨w.heap.size + 1, w.heap.size, by omega, by omega, rfl, ⟨by simpa [DS.vals] using hv2, hs2, by omega⟩, hb2⟩
end Go.Proofs.Ytgeopgibjmhehaa
