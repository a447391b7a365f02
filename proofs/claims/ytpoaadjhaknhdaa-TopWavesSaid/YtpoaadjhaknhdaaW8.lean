/- Natural numbers of one limb: Add, Mul (printed by wip/tools/mkw8.py). -/
import Derived.Test.YtpoaadjhaknhdaaMB
namespace Go.Proofs.Ytpoaadjhaknhdaa
open Go Go.RowKit Go.Sort Go.Deep

theorem One.at_ {w : World} {g off c n : Nat} (h : One w (.slice (some ⟨g, off, none⟩) 1 c) n) (h0 : 0 < n) : g < w.heap.size ∧ 1 ≤ c ∧ c ≤ maxLen ∧ w.cell? ⟨g, off, none⟩ = some (u32v n) := by
  rcases h.cases with ⟨e, _⟩ | ⟨_, g', off', c', e, h1, h2, h3, h4⟩
  · omega
  · injection e with e1 _ e3
    injection e1 with e1
    injection e1 with e1 e2 _
    subst e1 e2 e3
    exact ⟨h1, h2, h3, h4⟩
set_option maxRecDepth 100000 in
set_option maxHeartbeats 1600000 in
theorem add_00 {w : World} {A : Option Addr} {ca : Nat} {B : Option Addr} {cb : Nat} (ha : One w (.slice A 0 ca) 0) (hb : One w (.slice B 0 cb) 0) : Calls Try.prog 83 #[.slice A 0 ca, .slice B 0 cb] w fun e w' => ∃ v', e = .returned (.tuple #[v', .int .i64 0]) ∧ One w' v' (0) ∧ Below w.heap.size w w' := by
  have La := hid (show Calls Try.prog 82 #[.slice A 0 ca] w.drew (fun e w' => e = .returned (.int .i64 0) ∧ w.drew = w') from length_one (ha.drewN 1))
  have Ha := hid ha
  have ca0 : (0 : Int) ≤ (ca : Int) := by omega
  have Lb := hid (show Calls Try.prog 82 #[.slice B 0 cb] w.drew (fun e w' => e = .returned (.int .i64 0) ∧ w.drew = w') from length_one (hb.drewN 1))
  have Hb := hid hb
  have cb0 : (0 : Int) ≤ (cb : Int) := by omega
  have hq : True := trivial
  have HL := hid (limbs_new w.drew [0] 78 (by simp) (by unfold maxLen; simp))
  have HT := hid (top_one [0] 0 1 (fun j hj => by rcases (by omega : j = 0) with rfl; rfl) (fun e => by cases e))
  have HO := hid (HL.out.one rfl (Nat.le_refl _) 0 (fun j hj => by have : j < 1 := hj; rcases (by omega : j = 0) with rfl; rfl) (fun e => by cases e) (lenN 0) (lenN_le 0) (Nat.le_refl _))
  obtain ⟨k, hk⟩ : ∃ k, lenN (0) = k := ⟨_, rfl⟩
  rw [hk] at HT HO
  clear hk
  go_enter Try.func83, Try.ntmps83
  have k0 := make_1
  go_wp2_with fail
  refine (large_one Ha.out).mono ?_
  rintro e w2 ⟨rfl, rfl⟩
  go_wp2_with fail
  refine (large_one Hb.out).mono ?_
  rintro e w2 ⟨rfl, rfl⟩
  go_upto_region 3 with fail
  go_region_held3 (fun _ => True) (trivial)
    ((go_at_call 82; (first | with_reducible refine La.out.mono ?_ | with_reducible refine Lb.out.mono ?_); rintro e wx ⟨rfl, rfl⟩))
  all_goals
    go_wp2_with fail
    refine wp_loop_rounds 1 ?_
    rw [rounds_succ]
    go_wp2_with fail
    refine (sized_any HL.out rfl (Nat.le_refl _) (by simp)).mono ?_
    rintro e w4 ⟨rfl, rfl⟩
    rw [show ([0] : List Nat).length = 1 from rfl, HT.out]
    go_wp2
    go_ret2
    exact ⟨_, rfl, HO.out, ((Below.refl w.heap.size w).drew).alloc (Nat.le_refl _) _⟩
set_option maxRecDepth 100000 in
set_option maxHeartbeats 1600000 in
theorem add_01 {w : World} {A : Option Addr} {ca : Nat} {b gb ob cb : Nat} (ha : One w (.slice A 0 ca) 0) (hb : One w (.slice (some ⟨gb, ob, none⟩) 1 cb) b) (b0 : 0 < b) : Calls Try.prog 83 #[.slice A 0 ca, .slice (some ⟨gb, ob, none⟩) 1 cb] w fun e w' => ∃ v', e = .returned (.tuple #[v', .int .i64 0]) ∧ One w' v' (b) ∧ Below w.heap.size w w' := by
  have La := hid (show Calls Try.prog 82 #[.slice A 0 ca] w.drew (fun e w' => e = .returned (.int .i64 0) ∧ w.drew = w') from length_one (ha.drewN 1))
  have Ha := hid ha
  have ca0 : (0 : Int) ≤ (ca : Int) := by omega
  have lb := hb.1
  obtain ⟨gbl, gb1, gbm, zb⟩ := One.at_ hb b0
  have Lb := hid (show Calls Try.prog 82 #[.slice (some ⟨gb, ob, none⟩) 1 cb] w.drew (fun e w' => e = .returned (.int .i64 1) ∧ w.drew = w') from by have := length_one (hb.drewN 1); rwa [lenN_pos b0] at this)
  have zb1 : w.drew.cell? ⟨gb, ob, none⟩ = some (u32v b) := zb
  have Hb := hid hb
  have cb0 : (1 : Int) ≤ (cb : Int) := by omega
  have hq : (b : Int) / 4294967296 = 0 := by have := lb; omega
  have HL := hid (limbs_new w.drew [(b), 0] 78 (by simp; exact lb) (by unfold maxLen; simp))
  have HT := hid (top_one [(b), 0] (b) 2 (fun j hj => by rcases (by omega : j = 0 ∨ j = 1) with rfl | rfl <;> rfl) (fun e => by cases e))
  have HO := hid (HL.out.one rfl (Nat.le_refl _) (b) (fun j hj => by have : j < 2 := hj; rcases (by omega : j = 0 ∨ j = 1) with rfl | rfl <;> rfl) (fun e => by cases e) (lenN (b)) (Nat.le_trans (lenN_le _) (by simp)) (Nat.le_refl _))
  obtain ⟨k, hk⟩ : ∃ k, lenN (b) = k := ⟨_, rfl⟩
  rw [hk] at HT HO
  clear hk
  go_enter Try.func83, Try.ntmps83
  have k0 := make_2
  go_wp2_with fail
  refine (large_one Ha.out).mono ?_
  rintro e w2 ⟨rfl, rfl⟩
  go_wp2_with fail
  refine (large_one Hb.out).mono ?_
  rintro e w2 ⟨rfl, rfl⟩
  go_upto_region 3 with fail
  go_region_held3 (fun _ => True) (trivial)
    ((go_at_call 82; (first | with_reducible refine La.out.mono ?_ | with_reducible refine Lb.out.mono ?_); rintro e wx ⟨rfl, rfl⟩))
  all_goals
    go_wp2_with fail
    refine wp_loop_rounds 2 ?_
    rw [rounds_succ]
    go_wp2_with fail
    rw [rounds_succ]
    go_wp2_with fail
    refine (sized_any HL.out rfl (Nat.le_refl _) (by simp)).mono ?_
    rintro e w4 ⟨rfl, rfl⟩
    rw [show ([(b), 0] : List Nat).length = 2 from rfl, HT.out]
    go_wp2
    go_ret2
    exact ⟨_, rfl, HO.out, ((Below.refl w.heap.size w).drew).alloc (Nat.le_refl _) _⟩
set_option maxRecDepth 100000 in
set_option maxHeartbeats 1600000 in
theorem add_10 {w : World} {a ga oa ca : Nat} {B : Option Addr} {cb : Nat} (ha : One w (.slice (some ⟨ga, oa, none⟩) 1 ca) a) (a0 : 0 < a) (hb : One w (.slice B 0 cb) 0) : Calls Try.prog 83 #[.slice (some ⟨ga, oa, none⟩) 1 ca, .slice B 0 cb] w fun e w' => ∃ v', e = .returned (.tuple #[v', .int .i64 0]) ∧ One w' v' (a) ∧ Below w.heap.size w w' := by
  have la := ha.1
  obtain ⟨gal, ga1, gam, za⟩ := One.at_ ha a0
  have La := hid (show Calls Try.prog 82 #[.slice (some ⟨ga, oa, none⟩) 1 ca] w.drew (fun e w' => e = .returned (.int .i64 1) ∧ w.drew = w') from by have := length_one (ha.drewN 1); rwa [lenN_pos a0] at this)
  have za1 : w.drew.cell? ⟨ga, oa, none⟩ = some (u32v a) := za
  have Ha := hid ha
  have ca0 : (1 : Int) ≤ (ca : Int) := by omega
  have Lb := hid (show Calls Try.prog 82 #[.slice B 0 cb] w.drew (fun e w' => e = .returned (.int .i64 0) ∧ w.drew = w') from length_one (hb.drewN 1))
  have Hb := hid hb
  have cb0 : (0 : Int) ≤ (cb : Int) := by omega
  have hq : (a : Int) / 4294967296 = 0 := by have := la; omega
  have HL := hid (limbs_new w.drew [(a), 0] 78 (by simp; exact la) (by unfold maxLen; simp))
  have HT := hid (top_one [(a), 0] (a) 2 (fun j hj => by rcases (by omega : j = 0 ∨ j = 1) with rfl | rfl <;> rfl) (fun e => by cases e))
  have HO := hid (HL.out.one rfl (Nat.le_refl _) (a) (fun j hj => by have : j < 2 := hj; rcases (by omega : j = 0 ∨ j = 1) with rfl | rfl <;> rfl) (fun e => by cases e) (lenN (a)) (Nat.le_trans (lenN_le _) (by simp)) (Nat.le_refl _))
  obtain ⟨k, hk⟩ : ∃ k, lenN (a) = k := ⟨_, rfl⟩
  rw [hk] at HT HO
  clear hk
  go_enter Try.func83, Try.ntmps83
  have k0 := make_2
  go_wp2_with fail
  refine (large_one Ha.out).mono ?_
  rintro e w2 ⟨rfl, rfl⟩
  go_wp2_with fail
  refine (large_one Hb.out).mono ?_
  rintro e w2 ⟨rfl, rfl⟩
  go_upto_region 3 with fail
  go_region_held3 (fun _ => True) (trivial)
    ((go_at_call 82; (first | with_reducible refine La.out.mono ?_ | with_reducible refine Lb.out.mono ?_); rintro e wx ⟨rfl, rfl⟩))
  all_goals
    go_wp2_with fail
    refine wp_loop_rounds 2 ?_
    rw [rounds_succ]
    go_wp2_with fail
    rw [rounds_succ]
    go_wp2_with fail
    refine (sized_any HL.out rfl (Nat.le_refl _) (by simp)).mono ?_
    rintro e w4 ⟨rfl, rfl⟩
    rw [show ([(a), 0] : List Nat).length = 2 from rfl, HT.out]
    go_wp2
    go_ret2
    exact ⟨_, rfl, HO.out, ((Below.refl w.heap.size w).drew).alloc (Nat.le_refl _) _⟩
set_option maxRecDepth 100000 in
set_option maxHeartbeats 1600000 in
theorem add_11 {w : World} {a ga oa ca : Nat} {b gb ob cb : Nat} (ha : One w (.slice (some ⟨ga, oa, none⟩) 1 ca) a) (a0 : 0 < a) (hb : One w (.slice (some ⟨gb, ob, none⟩) 1 cb) b) (b0 : 0 < b) (hs : a + b < 4294967296) : Calls Try.prog 83 #[.slice (some ⟨ga, oa, none⟩) 1 ca, .slice (some ⟨gb, ob, none⟩) 1 cb] w fun e w' => ∃ v', e = .returned (.tuple #[v', .int .i64 0]) ∧ One w' v' (a + b) ∧ Below w.heap.size w w' := by
  have la := ha.1
  obtain ⟨gal, ga1, gam, za⟩ := One.at_ ha a0
  have La := hid (show Calls Try.prog 82 #[.slice (some ⟨ga, oa, none⟩) 1 ca] w.drew (fun e w' => e = .returned (.int .i64 1) ∧ w.drew = w') from by have := length_one (ha.drewN 1); rwa [lenN_pos a0] at this)
  have za1 : w.drew.cell? ⟨ga, oa, none⟩ = some (u32v a) := za
  have Ha := hid ha
  have ca0 : (1 : Int) ≤ (ca : Int) := by omega
  have lb := hb.1
  obtain ⟨gbl, gb1, gbm, zb⟩ := One.at_ hb b0
  have Lb := hid (show Calls Try.prog 82 #[.slice (some ⟨gb, ob, none⟩) 1 cb] w.drew (fun e w' => e = .returned (.int .i64 1) ∧ w.drew = w') from by have := length_one (hb.drewN 1); rwa [lenN_pos b0] at this)
  have zb1 : w.drew.cell? ⟨gb, ob, none⟩ = some (u32v b) := zb
  have Hb := hid hb
  have cb0 : (1 : Int) ≤ (cb : Int) := by omega
  obtain ⟨s, hss⟩ : ∃ s, a + b = s := ⟨_, rfl⟩
  rw [hss] at hs ⊢
  have hsI : (a : Int) + (b : Int) = (s : Int) := by omega
  clear hss
  have hq : (s : Int) / 4294967296 = 0 := by have := hs; omega
  have HL := hid (limbs_new w.drew [s, 0] 78 (by simp; exact hs) (by unfold maxLen; simp))
  have HT := hid (top_one [s, 0] (s) 2 (fun j hj => by rcases (by omega : j = 0 ∨ j = 1) with rfl | rfl <;> rfl) (fun e => by cases e))
  have HO := hid (HL.out.one rfl (Nat.le_refl _) (s) (fun j hj => by have : j < 2 := hj; rcases (by omega : j = 0 ∨ j = 1) with rfl | rfl <;> rfl) (fun e => by cases e) (lenN (s)) (Nat.le_trans (lenN_le _) (by simp)) (Nat.le_refl _))
  obtain ⟨k, hk⟩ : ∃ k, lenN (s) = k := ⟨_, rfl⟩
  rw [hk] at HT HO
  clear hk
  go_enter Try.func83, Try.ntmps83
  have k0 := make_2
  go_wp2_with fail
  refine (large_one Ha.out).mono ?_
  rintro e w2 ⟨rfl, rfl⟩
  go_wp2_with fail
  refine (large_one Hb.out).mono ?_
  rintro e w2 ⟨rfl, rfl⟩
  go_upto_region 3 with fail
  go_region_held3 (fun _ => True) (trivial)
    ((go_at_call 82; (first | with_reducible refine La.out.mono ?_ | with_reducible refine Lb.out.mono ?_); rintro e wx ⟨rfl, rfl⟩))
  all_goals
    go_wp2_with fail
    refine wp_loop_rounds 2 ?_
    rw [rounds_succ]
    go_wp2_with fail
    rw [rounds_succ]
    go_wp2_with fail
    refine (sized_any HL.out rfl (Nat.le_refl _) (by simp)).mono ?_
    rintro e w4 ⟨rfl, rfl⟩
    rw [show ([s, 0] : List Nat).length = 2 from rfl, HT.out]
    go_wp2
    go_ret2
    exact ⟨_, rfl, HO.out, ((Below.refl w.heap.size w).drew).alloc (Nat.le_refl _) _⟩
set_option maxRecDepth 100000 in
set_option maxHeartbeats 1600000 in
theorem mul_00 {w : World} {A : Option Addr} {ca : Nat} {B : Option Addr} {cb : Nat} (ha : One w (.slice A 0 ca) 0) (hb : One w (.slice B 0 cb) 0) : Calls Try.prog 88 #[.slice A 0 ca, .slice B 0 cb] w fun e w' => ∃ v', e = .returned (.tuple #[v', .int .i64 0]) ∧ One w' v' (0) ∧ Below w.heap.size w w' := by
  have La := hid (show Calls Try.prog 82 #[.slice A 0 ca] w.drew (fun e w' => e = .returned (.int .i64 0) ∧ w.drew = w') from length_one (ha.drewN 1))
  have Ha := hid ha
  have ca0 : (0 : Int) ≤ (ca : Int) := by omega
  have Lb := hid (show Calls Try.prog 82 #[.slice B 0 cb] w.drew (fun e w' => e = .returned (.int .i64 0) ∧ w.drew = w') from length_one (hb.drewN 1))
  have Hb := hid hb
  have cb0 : (0 : Int) ≤ (cb : Int) := by omega
  have HL := hid (limbs_new w.drew [] 78 (fun x hx => by cases hx) (Nat.zero_le _))
  have HT := hid (show top [] 0 = lenN 0 from rfl)
  have HO := hid (show One (w.drew.alloc (.cells #[] 78)) (.slice (some ⟨w.drew.heap.size, 0, none⟩) (lenN 0) (lenN 0)) 0 from One.empty (by simp) (Nat.zero_le _))
  obtain ⟨k, hk⟩ : ∃ k, lenN (0) = k := ⟨_, rfl⟩
  rw [hk] at HT HO
  clear hk
  go_enter Try.func88, Try.ntmps88
  have k0 := make_0
  go_wp2_with fail
  refine (large_one Ha.out).mono ?_
  rintro e w2 ⟨rfl, rfl⟩
  go_wp2_with fail
  refine (large_one Hb.out).mono ?_
  rintro e w2 ⟨rfl, rfl⟩
  go_upto_region 3 with fail
  go_region_held3 (fun _ => True) (trivial)
    ((go_at_call 82; (first | with_reducible refine La.out.mono ?_ | with_reducible refine Lb.out.mono ?_); rintro e wx ⟨rfl, rfl⟩))
  all_goals
    go_wp2_with fail
    refine wp_loop_rounds 1 ?_
    rw [rounds_succ]
    go_wp2_with fail
    refine (sized_any HL.out rfl (Nat.le_refl _) (by simp)).mono ?_
    rintro e w4 ⟨rfl, rfl⟩
    rw [show ([] : List Nat).length = 0 from rfl, HT.out]
    go_wp2
    go_ret2
    exact ⟨_, rfl, HO.out, ((Below.refl w.heap.size w).drew).alloc (Nat.le_refl _) _⟩
set_option maxRecDepth 100000 in
set_option maxHeartbeats 1600000 in
theorem mul_01 {w : World} {A : Option Addr} {ca : Nat} {b gb ob cb : Nat} (ha : One w (.slice A 0 ca) 0) (hb : One w (.slice (some ⟨gb, ob, none⟩) 1 cb) b) (b0 : 0 < b) : Calls Try.prog 88 #[.slice A 0 ca, .slice (some ⟨gb, ob, none⟩) 1 cb] w fun e w' => ∃ v', e = .returned (.tuple #[v', .int .i64 0]) ∧ One w' v' (0) ∧ Below w.heap.size w w' := by
  have La := hid (show Calls Try.prog 82 #[.slice A 0 ca] w.drew (fun e w' => e = .returned (.int .i64 0) ∧ w.drew = w') from length_one (ha.drewN 1))
  have Ha := hid ha
  have ca0 : (0 : Int) ≤ (ca : Int) := by omega
  have lb := hb.1
  obtain ⟨gbl, gb1, gbm, zb⟩ := One.at_ hb b0
  have Lb := hid (show Calls Try.prog 82 #[.slice (some ⟨gb, ob, none⟩) 1 cb] w.drew (fun e w' => e = .returned (.int .i64 1) ∧ w.drew = w') from by have := length_one (hb.drewN 1); rwa [lenN_pos b0] at this)
  have zb1 : w.drew.cell? ⟨gb, ob, none⟩ = some (u32v b) := zb
  have Hb := hid hb
  have cb0 : (1 : Int) ≤ (cb : Int) := by omega
  have hq : True := trivial
  have HL := hid (limbs_new w.drew [0] 78 (by simp) (by unfold maxLen; simp))
  have HT := hid (top_one [0] 0 1 (fun j hj => by rcases (by omega : j = 0) with rfl; rfl) (fun e => by cases e))
  have HO := hid (HL.out.one rfl (Nat.le_refl _) 0 (fun j hj => by have : j < 1 := hj; rcases (by omega : j = 0) with rfl; rfl) (fun e => by cases e) (lenN 0) (lenN_le 0) (Nat.le_refl _))
  obtain ⟨k, hk⟩ : ∃ k, lenN (0) = k := ⟨_, rfl⟩
  rw [hk] at HT HO
  clear hk
  go_enter Try.func88, Try.ntmps88
  have k0 := make_1
  go_wp2_with fail
  refine (large_one Ha.out).mono ?_
  rintro e w2 ⟨rfl, rfl⟩
  go_wp2_with fail
  refine (large_one Hb.out).mono ?_
  rintro e w2 ⟨rfl, rfl⟩
  go_upto_region 3 with fail
  go_region_held3 (fun _ => True) (trivial)
    ((go_at_call 82; (first | with_reducible refine La.out.mono ?_ | with_reducible refine Lb.out.mono ?_); rintro e wx ⟨rfl, rfl⟩))
  all_goals
    go_wp2_with fail
    refine wp_loop_rounds 1 ?_
    rw [rounds_succ]
    go_wp2_with fail
    refine (sized_any HL.out rfl (Nat.le_refl _) (by simp)).mono ?_
    rintro e w4 ⟨rfl, rfl⟩
    rw [show ([0] : List Nat).length = 1 from rfl, HT.out]
    go_wp2
    go_ret2
    exact ⟨_, rfl, HO.out, ((Below.refl w.heap.size w).drew).alloc (Nat.le_refl _) _⟩
set_option maxRecDepth 100000 in
set_option maxHeartbeats 1600000 in
theorem mul_10 {w : World} {a ga oa ca : Nat} {B : Option Addr} {cb : Nat} (ha : One w (.slice (some ⟨ga, oa, none⟩) 1 ca) a) (a0 : 0 < a) (hb : One w (.slice B 0 cb) 0) : Calls Try.prog 88 #[.slice (some ⟨ga, oa, none⟩) 1 ca, .slice B 0 cb] w fun e w' => ∃ v', e = .returned (.tuple #[v', .int .i64 0]) ∧ One w' v' (0) ∧ Below w.heap.size w w' := by
  have la := ha.1
  obtain ⟨gal, ga1, gam, za⟩ := One.at_ ha a0
  have La := hid (show Calls Try.prog 82 #[.slice (some ⟨ga, oa, none⟩) 1 ca] w.drew (fun e w' => e = .returned (.int .i64 1) ∧ w.drew = w') from by have := length_one (ha.drewN 1); rwa [lenN_pos a0] at this)
  have za1 : w.drew.cell? ⟨ga, oa, none⟩ = some (u32v a) := za
  have Ha := hid ha
  have ca0 : (1 : Int) ≤ (ca : Int) := by omega
  have Lb := hid (show Calls Try.prog 82 #[.slice B 0 cb] w.drew (fun e w' => e = .returned (.int .i64 0) ∧ w.drew = w') from length_one (hb.drewN 1))
  have Hb := hid hb
  have cb0 : (0 : Int) ≤ (cb : Int) := by omega
  have hq : True := trivial
  have HL := hid (limbs_new w.drew [0] 78 (by simp) (by unfold maxLen; simp))
  have HT := hid (top_one [0] 0 1 (fun j hj => by rcases (by omega : j = 0) with rfl; rfl) (fun e => by cases e))
  have HO := hid (HL.out.one rfl (Nat.le_refl _) 0 (fun j hj => by have : j < 1 := hj; rcases (by omega : j = 0) with rfl; rfl) (fun e => by cases e) (lenN 0) (lenN_le 0) (Nat.le_refl _))
  obtain ⟨k, hk⟩ : ∃ k, lenN (0) = k := ⟨_, rfl⟩
  rw [hk] at HT HO
  clear hk
  go_enter Try.func88, Try.ntmps88
  have k0 := make_1
  go_wp2_with fail
  refine (large_one Ha.out).mono ?_
  rintro e w2 ⟨rfl, rfl⟩
  go_wp2_with fail
  refine (large_one Hb.out).mono ?_
  rintro e w2 ⟨rfl, rfl⟩
  go_upto_region 3 with fail
  go_region_held3 (fun _ => True) (trivial)
    ((go_at_call 82; (first | with_reducible refine La.out.mono ?_ | with_reducible refine Lb.out.mono ?_); rintro e wx ⟨rfl, rfl⟩))
  all_goals
    go_wp2_with fail
    refine wp_loop_rounds 2 ?_
    rw [rounds_succ]
    go_wp2_with fail
    refine wp_loop_rounds 1 ?_
    rw [rounds_succ]
    go_wp2_with fail
    rw [rounds_succ]
    go_wp2_with fail
    refine (sized_any HL.out rfl (Nat.le_refl _) (by simp)).mono ?_
    rintro e w4 ⟨rfl, rfl⟩
    rw [show ([0] : List Nat).length = 1 from rfl, HT.out]
    go_wp2
    go_ret2
    exact ⟨_, rfl, HO.out, ((Below.refl w.heap.size w).drew).alloc (Nat.le_refl _) _⟩
set_option maxRecDepth 100000 in
set_option maxHeartbeats 1600000 in
theorem mul_11 {w : World} {a ga oa ca : Nat} {b gb ob cb : Nat} (ha : One w (.slice (some ⟨ga, oa, none⟩) 1 ca) a) (a0 : 0 < a) (hb : One w (.slice (some ⟨gb, ob, none⟩) 1 cb) b) (b0 : 0 < b) (hs : a * b < 4294967296) : Calls Try.prog 88 #[.slice (some ⟨ga, oa, none⟩) 1 ca, .slice (some ⟨gb, ob, none⟩) 1 cb] w fun e w' => ∃ v', e = .returned (.tuple #[v', .int .i64 0]) ∧ One w' v' (a * b) ∧ Below w.heap.size w w' := by
  have la := ha.1
  obtain ⟨gal, ga1, gam, za⟩ := One.at_ ha a0
  have La := hid (show Calls Try.prog 82 #[.slice (some ⟨ga, oa, none⟩) 1 ca] w.drew (fun e w' => e = .returned (.int .i64 1) ∧ w.drew = w') from by have := length_one (ha.drewN 1); rwa [lenN_pos a0] at this)
  have za1 : w.drew.cell? ⟨ga, oa, none⟩ = some (u32v a) := za
  have Ha := hid ha
  have ca0 : (1 : Int) ≤ (ca : Int) := by omega
  have lb := hb.1
  obtain ⟨gbl, gb1, gbm, zb⟩ := One.at_ hb b0
  have Lb := hid (show Calls Try.prog 82 #[.slice (some ⟨gb, ob, none⟩) 1 cb] w.drew (fun e w' => e = .returned (.int .i64 1) ∧ w.drew = w') from by have := length_one (hb.drewN 1); rwa [lenN_pos b0] at this)
  have zb1 : w.drew.cell? ⟨gb, ob, none⟩ = some (u32v b) := zb
  have Hb := hid hb
  have cb0 : (1 : Int) ≤ (cb : Int) := by omega
  obtain ⟨s, hss⟩ : ∃ s, a * b = s := ⟨_, rfl⟩
  rw [hss] at hs ⊢
  have hsI : (a : Int) * (b : Int) = (s : Int) := by rw [← hss, Int.natCast_mul]
  clear hss
  have hq : (s : Int) / 4294967296 = 0 := by have := hs; omega
  have HL := hid (limbs_new w.drew [s, 0] 78 (by simp; exact hs) (by unfold maxLen; simp))
  have HT := hid (top_one [s, 0] (s) 2 (fun j hj => by rcases (by omega : j = 0 ∨ j = 1) with rfl | rfl <;> rfl) (fun e => by cases e))
  have HO := hid (HL.out.one rfl (Nat.le_refl _) (s) (fun j hj => by have : j < 2 := hj; rcases (by omega : j = 0 ∨ j = 1) with rfl | rfl <;> rfl) (fun e => by cases e) (lenN (s)) (Nat.le_trans (lenN_le _) (by simp)) (Nat.le_refl _))
  obtain ⟨k, hk⟩ : ∃ k, lenN (s) = k := ⟨_, rfl⟩
  rw [hk] at HT HO
  clear hk
  go_enter Try.func88, Try.ntmps88
  have k0 := make_2
  go_wp2_with fail
  refine (large_one Ha.out).mono ?_
  rintro e w2 ⟨rfl, rfl⟩
  go_wp2_with fail
  refine (large_one Hb.out).mono ?_
  rintro e w2 ⟨rfl, rfl⟩
  go_upto_region 3 with fail
  go_region_held3 (fun _ => True) (trivial)
    ((go_at_call 82; (first | with_reducible refine La.out.mono ?_ | with_reducible refine Lb.out.mono ?_); rintro e wx ⟨rfl, rfl⟩))
  all_goals
    go_wp2_with fail
    refine wp_loop_rounds 2 ?_
    rw [rounds_succ]
    go_wp2_with fail
    refine wp_loop_rounds 2 ?_
    rw [rounds_succ]
    go_wp2_with fail
    rw [rounds_succ]
    go_wp2_with fail
    rw [rounds_succ]
    go_wp2_with fail
    refine (sized_any HL.out rfl (Nat.le_refl _) (by simp)).mono ?_
    rintro e w4 ⟨rfl, rfl⟩
    rw [show ([s, 0] : List Nat).length = 2 from rfl, HT.out]
    go_wp2
    go_ret2
    exact ⟨_, rfl, HO.out, ((Below.refl w.heap.size w).drew).alloc (Nat.le_refl _) _⟩
section
variable {w : World} {u v : Value} {a b : Nat}
theorem add_one (ha : One w u a) (hb : One w v b) (hs : a + b < 4294967296) : Calls Try.prog 83 #[u, v] w fun e w' => ∃ v', e = .returned (.tuple #[v', .int .i64 0]) ∧ One w' v' (a + b) ∧ Below w.heap.size w w' := by
  rcases ha.cases with ⟨rfl, A, ca, rfl, _⟩ | ⟨a0, ga, oa, ca, rfl, _⟩ <;> rcases hb.cases with ⟨rfl, B, cb, rfl, _⟩ | ⟨b0, gb, ob, cb, rfl, _⟩
  · exact add_00 ha hb
  · rw [Nat.zero_add]; exact add_01 ha hb b0
  · exact add_10 ha a0 hb
  · exact add_11 ha a0 hb b0 hs
theorem mul_one (ha : One w u a) (hb : One w v b) (hs : a * b < 4294967296) : Calls Try.prog 88 #[u, v] w fun e w' => ∃ v', e = .returned (.tuple #[v', .int .i64 0]) ∧ One w' v' (a * b) ∧ Below w.heap.size w w' := by
  rcases ha.cases with ⟨rfl, A, ca, rfl, _⟩ | ⟨a0, ga, oa, ca, rfl, _⟩ <;> rcases hb.cases with ⟨rfl, B, cb, rfl, _⟩ | ⟨b0, gb, ob, cb, rfl, _⟩
  · exact mul_00 ha hb
  · rw [Nat.zero_mul]; exact mul_01 ha hb b0
  · exact mul_10 ha a0 hb
  · exact mul_11 ha a0 hb b0 hs
end
end Go.Proofs.Ytpoaadjhaknhdaa
