/- Do; Alike; Make. -/
import Derived.Test.YtegekmdechcikaaEPair2
namespace Go.Proofs.Ytegekmdechcikaa
open Go Go.RowKit Go.Sort

theorem ref_read_e {w : World} {o : Own} {a : Nat} {S : Dv} (h : Ref w o a S) (hS : S.Ok) (s : Int) :
    Calls Try.prog 56 #[.pointer (some ⟨a, 0, none⟩), .int .i64 s] w fun e w' => e = .returned (.tuple #[.string (S.read s).1, .int .i64 (S.read s).2]) ∧ ∃ n, w' = w.drewN n := by
  obtain ⟨R, ⟨p, b, c, pv, h⟩, hr⟩ := h
  exact ref_read h hr hS s
theorem ref_status_e {w : World} {o : Own} {a : Nat} {S : Dv} (h : Ref w o a S) :
    Calls Try.prog 58 #[.pointer (some ⟨a, 0, none⟩)] w fun e w' => e = .returned (.agg #[.bool S.online, .bool S.dead, .int .i64 S.term]) ∧ Below w.heap.size w w' := by
  obtain ⟨R, ⟨p, b, c, pv, h⟩, hr⟩ := h
  exact ref_status h hr
theorem ref_platters_e {w : World} {o : Own} {a : Nat} {S : Dv} (h : Ref w o a S) (hS : S.Ok) :
    Calls Try.prog 59 #[.pointer (some ⟨a, 0, none⟩)] w fun e w' => ∃ v, e = .returned v ∧ Texts w' (New w) v S.platters ∧ Below w.heap.size w w' := by
  obtain ⟨R, ⟨p, b, c, pv, h⟩, hr⟩ := h
  exact ref_platters h hr hS
theorem same_b {w : World} {o1 o2 : Own} {v1 v2 : Value} {l1 l2 : List ByteArray} (h1 : Texts w o1 v1 l1) (h2 : Texts w o2 v2 l2) (r : Bool) (hr : r = true ↔ l1 = l2) :
    Calls Try.prog 37 #[v1, v2] w fun e w' => e = .returned (.bool r) ∧ Below w.heap.size w w' :=
  (same_texts h1 h2 r hr).mono fun _ _ ⟨he, n, hw⟩ => ⟨he, by rw [hw]; exact below_drew _ n⟩
theorem Ref.slots {w : World} {o : Own} {a : Nat} {S : Dv} (h : Ref w o a S) : w.cell? ⟨a, 0, none⟩ = some (.int .i64 S.claim) := by
  obtain ⟨R, ⟨p, b, c, pv, h⟩, hr⟩ := h
  have := h.cells.1
  rwa [hr.claim] at this
theorem Ref.lt {w : World} {o : Own} {a : Nat} {S : Dv} (h : Ref w o a S) : a < w.heap.size := by
  obtain ⟨R, ⟨p, b, c, pv, h⟩, hr⟩ := h
  exact h.vals.lt
theorem int_self (x : Int) : (x == x) = true := by simp
section
variable {w : World} {o1 o2 : Own} {a b : Nat} {S : Dv}
set_option maxRecDepth 100000 in
set_option maxHeartbeats 2000000 in
theorem do_read (h : Both w o1 o2 a b S) (hS : S.Ok) (x : Opr) (hk : x.kind = 2) :
    Calls Try.prog 35 #[.agg #[.pointer (some ⟨a, 0, none⟩), .pointer (some ⟨b, 0, none⟩)], x.val] w fun e w' => e = .returned (.bool true) ∧ Moved w o1 o2 a b (S.step x) w' := by
  have hstep : S.step x = S := by unfold Dv.step; simp [hk]
  rw [hstep]
  have e1 : (x.kind == 1) = false := by rw [beq_eq_false_iff_ne]; omega
  have e2 := (beq_iff_eq (a := x.kind) (b := 2)).2 hk
  have hba : Below w.heap.size w ((w.alloc (.cells #[.pointer (some ⟨a, 0, none⟩), .pointer (some ⟨b, 0, none⟩)] 54)).alloc (.cells (oprCells x).toArray 80)) := ((Below.refl _ _).alloc (Nat.le_refl _) _).alloc (by simp) _
  have HH := hid (h.below hba)
  have HH0 := hid h
  have HBA := hid hba
  have HS := hid hS
  have hs1 := str_eq (S.read x.slot).1
  clear h hS hk hstep hba
  go_enter Try.func35, Try.ntmps35
  go_wp2_with fail
  refine (read_e (w := (w.alloc (.cells #[.pointer (some ⟨a, 0, none⟩), .pointer (some ⟨b, 0, none⟩)] 54)).alloc (.cells (oprCells x).toArray 80)) HH.out.drv HS.out x.slot).mono ?_
  rintro e w1 ⟨rfl, n1, rfl⟩
  have HH1 := hid (HH.out.below (below_drew _ n1))
  go_wp2_with fail
  refine (ref_read_e HH1.out.ref HS.out x.slot).mono ?_
  rintro e w1 ⟨rfl, n2, rfl⟩
  generalize (S.read x.slot).1 = rs at *
  generalize (S.read x.slot).2 = re at *
  have HF := hid (HBA.out.trans ((below_drew _ (n1 + n2)).mono HBA.out.size))
  go_wp2
  go_ret
  exact ⟨by simp, HH0.out.stay HF.out⟩
set_option maxRecDepth 100000 in
set_option maxHeartbeats 2000000 in
theorem do_none (h : Both w o1 o2 a b S) (x : Opr) (h1 : x.kind ≠ 1) (h2 : x.kind ≠ 2) (h3 : x.kind ≠ 3) (h4 : x.kind ≠ 4) (h5 : x.kind ≠ 5) :
    Calls Try.prog 35 #[.agg #[.pointer (some ⟨a, 0, none⟩), .pointer (some ⟨b, 0, none⟩)], x.val] w fun e w' => e = .returned (.bool true) ∧ Moved w o1 o2 a b (S.step x) w' := by
  have hstep : S.step x = S := by unfold Dv.step; simp [h1, h3, h4, h5]
  rw [hstep]
  have e1 : (x.kind == 1) = false := by rw [beq_eq_false_iff_ne]; omega
  have e2 : (x.kind == 2) = false := by rw [beq_eq_false_iff_ne]; omega
  have e3 : (x.kind == 3) = false := by rw [beq_eq_false_iff_ne]; omega
  have e4 : (x.kind == 4) = false := by rw [beq_eq_false_iff_ne]; omega
  have e5 : (x.kind == 5) = false := by rw [beq_eq_false_iff_ne]; omega
  have HH := hid h
  clear h hstep h1 h2 h3 h4 h5
  go_enter Try.func35, Try.ntmps35
  go_wp2
  go_ret
  exact ⟨by simp, HH.out.stay (((Below.refl _ _).alloc (Nat.le_refl _) _).alloc (by simp) _)⟩
theorem do_any (h : Both w o1 o2 a b S) (hS : S.Ok) (hn : S.pend.length ≤ 900000) (x : Opr) :
    Calls Try.prog 35 #[.agg #[.pointer (some ⟨a, 0, none⟩), .pointer (some ⟨b, 0, none⟩)], x.val] w fun e w' => e = .returned (.bool true) ∧ Moved w o1 o2 a b (S.step x) w' := by
  by_cases h1 : x.kind = 1
  · exact do_write h hS hn x h1
  by_cases h2 : x.kind = 2
  · exact do_read h hS x h2
  by_cases h3 : x.kind = 3
  · exact do_erase h hS hn x h3
  by_cases h4 : x.kind = 4
  · exact do_fence h hS hn x h4
  by_cases h5 : x.kind = 5
  · exact do_inject h hS hn x h5
  exact do_none h x h1 h2 h3 h4 h5
set_option maxRecDepth 100000 in
set_option maxHeartbeats 4000000 in
theorem alike_any (h : Both w o1 o2 a b S) (hS : S.Ok) :
    Calls Try.prog 31 #[.agg #[.pointer (some ⟨a, 0, none⟩), .pointer (some ⟨b, 0, none⟩)]] w fun e w' => e = .returned (.bool true) ∧ Below w.heap.size w w' := by
  have hba : Below w.heap.size w (w.alloc (.cells #[.pointer (some ⟨a, 0, none⟩), .pointer (some ⟨b, 0, none⟩)] 54)).drew := ((Below.refl _ _).alloc (Nat.le_refl _) _).drew
  have hp0 : (w.alloc (.cells #[.pointer (some ⟨a, 0, none⟩), .pointer (some ⟨b, 0, none⟩)] 54)).heap[w.heap.size]? = some (.cells #[.pointer (some ⟨a, 0, none⟩), .pointer (some ⟨b, 0, none⟩)] 54 (0, 0)) := heap_alloc_new w _
  have hlp : w.heap.size < (w.alloc (.cells #[.pointer (some ⟨a, 0, none⟩), .pointer (some ⟨b, 0, none⟩)] 54)).drew.heap.size := by show w.heap.size < (w.heap.push _).size; simp
  have HB := hid (h.below hba)
  have HW := hid hba
  have HO := hid hS
  have hbl := HB.out.ref.lt
  have HSS := hid (And.intro (show (w.alloc (.cells #[.pointer (some ⟨a, 0, none⟩), .pointer (some ⟨b, 0, none⟩)] 54)).drew.cell? ⟨w.heap.size, 0, none⟩ = some (.pointer (some ⟨a, 0, none⟩)) from cell_block hp0 0) (And.intro (show (w.alloc (.cells #[.pointer (some ⟨a, 0, none⟩), .pointer (some ⟨b, 0, none⟩)] 54)).drew.cell? ⟨w.heap.size, 1, none⟩ = some (.pointer (some ⟨b, 0, none⟩)) from cell_block hp0 1) (And.intro HB.out.ref.slots (And.intro hlp hbl))))
  clear h hS hba hp0 hlp hbl
  go_enter Try.func31, Try.ntmps31
  go_upto_region 1 with fail
  generalize w.alloc (.cells #[.pointer (some ⟨a, 0, none⟩), .pointer (some ⟨b, 0, none⟩)] 54) = w1 at *
  generalize hqp : w.heap.size = qp at HSS ⊢
  have HQP := hid hqp
  clear hqp
  go_region_held3 (fun w' => w'.cell? ⟨qp, 0, none⟩ = some (.pointer (some ⟨a, 0, none⟩)) ∧ w'.cell? ⟨qp, 1, none⟩ = some (.pointer (some ⟨b, 0, none⟩)) ∧ w'.cell? ⟨b, 0, none⟩ = some (.int .i64 S.claim))
    (exact ⟨HSS.out.1, HSS.out.2.1, HSS.out.2.2.1⟩)
    ((first
      | (go_at_call 29; refine (status_e HB.out.drv HO.out).mono ?_; rintro e wx ⟨rfl, hbx⟩; replace HB := hid (HB.out.below hbx); replace HSS := hid (And.intro ((hbx.cell (p := ⟨qp, 0, none⟩) HSS.out.2.2.2.1).trans HSS.out.1) (And.intro ((hbx.cell (p := ⟨qp, 1, none⟩) HSS.out.2.2.2.1).trans HSS.out.2.1) (And.intro ((hbx.cell (p := ⟨b, 0, none⟩) HSS.out.2.2.2.2).trans HSS.out.2.2.1) (And.intro (Nat.lt_of_lt_of_le HSS.out.2.2.2.1 hbx.size) (Nat.lt_of_lt_of_le HSS.out.2.2.2.2 hbx.size))))); replace HW := hid (HW.out.trans (hbx.mono HW.out.size)))
      | (go_at_call 58; refine (ref_status_e HB.out.ref).mono ?_; rintro e wx ⟨rfl, hbx⟩; replace HB := hid (HB.out.below hbx); replace HSS := hid (And.intro ((hbx.cell (p := ⟨qp, 0, none⟩) HSS.out.2.2.2.1).trans HSS.out.1) (And.intro ((hbx.cell (p := ⟨qp, 1, none⟩) HSS.out.2.2.2.1).trans HSS.out.2.1) (And.intro ((hbx.cell (p := ⟨b, 0, none⟩) HSS.out.2.2.2.2).trans HSS.out.2.2.1) (And.intro (Nat.lt_of_lt_of_le HSS.out.2.2.2.1 hbx.size) (Nat.lt_of_lt_of_le HSS.out.2.2.2.2 hbx.size))))); replace HW := hid (HW.out.trans (hbx.mono HW.out.size)))
      | (go_at_call 25; refine (claim_e HB.out.drv).mono ?_; rintro e wx ⟨rfl, rfl⟩)
      | (go_at_call 27; refine (platters_e HB.out.drv HO.out).mono ?_; rintro e wx ⟨vd, rfl, htd, hbx⟩; have HTD := hid htd; (try replace HTR := hid (OwnSl.below HTR.out hbx)); replace HB := hid (HB.out.below hbx); replace HSS := hid (And.intro ((hbx.cell (p := ⟨qp, 0, none⟩) HSS.out.2.2.2.1).trans HSS.out.1) (And.intro ((hbx.cell (p := ⟨qp, 1, none⟩) HSS.out.2.2.2.1).trans HSS.out.2.1) (And.intro ((hbx.cell (p := ⟨b, 0, none⟩) HSS.out.2.2.2.2).trans HSS.out.2.2.1) (And.intro (Nat.lt_of_lt_of_le HSS.out.2.2.2.1 hbx.size) (Nat.lt_of_lt_of_le HSS.out.2.2.2.2 hbx.size))))); replace HW := hid (HW.out.trans (hbx.mono HW.out.size)))
      | (go_at_call 59; refine (ref_platters_e HB.out.ref HO.out).mono ?_; rintro e wx ⟨vr, rfl, htr, hbx⟩; have HTR := hid htr; (try replace HTD := hid (OwnSl.below HTD.out hbx)); replace HB := hid (HB.out.below hbx); replace HSS := hid (And.intro ((hbx.cell (p := ⟨qp, 0, none⟩) HSS.out.2.2.2.1).trans HSS.out.1) (And.intro ((hbx.cell (p := ⟨qp, 1, none⟩) HSS.out.2.2.2.1).trans HSS.out.2.1) (And.intro ((hbx.cell (p := ⟨b, 0, none⟩) HSS.out.2.2.2.2).trans HSS.out.2.2.1) (And.intro (Nat.lt_of_lt_of_le HSS.out.2.2.2.1 hbx.size) (Nat.lt_of_lt_of_le HSS.out.2.2.2.2 hbx.size))))); replace HW := hid (HW.out.trans (hbx.mono HW.out.size)))
      | (go_at_call 37; refine (same_b HTD.out HTR.out true (by simp)).mono ?_; rintro e wx ⟨rfl, hbx⟩; replace HSS := hid (And.intro ((hbx.cell (p := ⟨qp, 0, none⟩) HSS.out.2.2.2.1).trans HSS.out.1) (And.intro ((hbx.cell (p := ⟨qp, 1, none⟩) HSS.out.2.2.2.1).trans HSS.out.2.1) (And.intro ((hbx.cell (p := ⟨b, 0, none⟩) HSS.out.2.2.2.2).trans HSS.out.2.2.1) (And.intro (Nat.lt_of_lt_of_le HSS.out.2.2.2.1 hbx.size) (Nat.lt_of_lt_of_le HSS.out.2.2.2.2 hbx.size))))); replace HW := hid (HW.out.trans (hbx.mono HW.out.size)))))
  all_goals
    clear HB HSS HTD HTR
    go_wp2
    go_ret
    exact ⟨by simp, HW.out⟩
theorem results_cell_pair {P : Program} {fn : Func} {p q : Tmp} {ty : TypeId} (h : fn.results = #[.cell p ty, .tmp q]) (tmps : Array Value) (w : World) (g : Nat) (t : TypeId) (cs : Array Value) (fr : Nat × Nat) (d : TypeDesc)
    (hp : tmps.getD p undef = .pointer (some ⟨g, 0, none⟩)) (hg : w.heap[g]? = some (.cells cs t fr))
    (hu : P.underlying ty = some d) (hd : (match d with | .struct _ | .array _ _ => true | _ => false) = true) (hi : (P.info? ty).map (·.size) = some cs.size) :
    (results fn tmps).run P w = .ok (.tuple #[.agg cs, tmps.getD q undef]) w := by
  have hp' : tmps[p]?.getD undef = .pointer (some ⟨g, 0, none⟩) := by simpa using hp
  simp [results, h, hp', asAddr, run_loadVar_row w g t ty cs fr d hg hu hd hi]
theorem Try.info_pair : (Try.prog.info? 54).map (·.size) = some 2 := by kernel_rfl
theorem pair_one (p q : Option Addr) : (#[Value.pointer p, .pointer q]).all (·.oneCell') = true := by kernel_rfl
/-- The sizes that Make takes. -/
def mkC (c : Int) : Int := 1 + c % 128
def mkR (c r : Int) : Nat := (1 + r % mkC c).toNat
theorem mk_ok (c r : Int) : 1 ≤ mkR c r ∧ (mkR c r : Int) ≤ mkC c ∧ mkC c ≤ 128 ∧ (mkR c r : Int) = 1 + r % mkC c := by
  have h0 := Int.emod_nonneg c (show (128 : Int) ≠ 0 by decide)
  have h1 := Int.emod_lt_of_pos c (show (0 : Int) < 128 by decide)
  have h2 : 0 < mkC c := by unfold mkC; omega
  have h3 := Int.emod_nonneg r (show mkC c ≠ 0 by omega)
  have h4 := Int.emod_lt_of_pos r h2
  unfold mkR
  refine ⟨by omega, by omega, by unfold mkC; omega, by omega⟩
set_option maxRecDepth 100000 in
set_option maxHeartbeats 2000000 in
theorem make_any (c r : Int) (w : World) :
    Calls Try.prog 51 #[.int .i64 c, .int .i64 r] w fun e w' => ∃ a b o1 o2, e = .returned (.tuple #[.agg #[.pointer (some ⟨a, 0, none⟩), .pointer (some ⟨b, 0, none⟩)], .bool true]) ∧ Both w' o1 o2 a b (newDv (mkC c) (mkR c r)) ∧ Above w.heap.size (Or o1 o2) ∧ Below w.heap.size w w' := by
  obtain ⟨m1, m2, m3, m4⟩ := mk_ok c r
  have k0 := Int.emod_nonneg c (show (128 : Int) ≠ 0 by decide)
  have k1 := Int.emod_lt_of_pos c (show (0 : Int) < 128 by decide)
  have hC : mkC c = 1 + c % 128 := rfl
  have m5 : 0 ≤ r % mkC c := Int.emod_nonneg r (by omega)
  have HC := hid hC
  have HM4 := hid m4
  clear m4 hC
  go_enter Try.func51, Try.ntmps51
  go_upto_region 1 with fail
  have hb1 : Below w.heap.size w (w.alloc (.cells #[.pointer none, .pointer none] 54)) := (Below.refl _ _).alloc (Nat.le_refl _) _
  have hg1 := heap_alloc_new w (.cells #[Value.pointer none, .pointer none] 54)
  have HB1 := hid hb1
  have HG1 := hid hg1
  clear hb1 hg1
  generalize w.alloc (.cells #[.pointer none, .pointer none] 54) = w1 at *
  go_wp2_with fail
  refine (within_any c 128 _ (by omega) (by omega)).mono ?_
  rintro e wx ⟨rfl, rfl⟩
  have hcc : 1 + c % 128 = mkC c := HC.out.symm
  go_wp2_with fail
  refine (within_any r (mkC c) _ (by omega) (by omega)).mono ?_
  rintro e wx ⟨rfl, rfl⟩
  have hrr : 1 + r % mkC c = (mkR c r : Int) := HM4.out.symm
  clear hcc
  go_wp2_with fail
  refine (new_e (mkC c) (mkR c r) _ m1 m2 m3).mono ?_
  rintro e w2 ⟨a, rfl, hd2, hb2⟩
  have HD2 := hid hd2
  have HB2 := hid hb2
  clear hd2 hb2
  go_wp2_with fail
  refine (ref_new (mkC c) (mkR c r) _ m1 m2 m3).mono ?_
  rintro e w3 ⟨b, rfl, hd3, hb3⟩
  have hap : Apart (Grow NoOwn w1 w2) (Grow NoOwn w2 w3) := fun k e1 e2 => by
    rcases e1 with e1 | e1
    · exact e1.elim
    · rcases e2 with e2 | e2
      · exact e2.elim
      · omega
  have hbo : Both w3 (Grow NoOwn w1 w2) (Grow NoOwn w2 w3) a b (newDv (mkC c) (mkR c r)) := ⟨HD2.out.below hb3, hd3, hap⟩
  have hlt1 : w.heap.size < w1.heap.size := (Array.getElem?_eq_some_iff.1 HG1.out).1
  have hab : Above (w.heap.size + 1) (Or (Grow NoOwn w1 w2) (Grow NoOwn w2 w3)) := fun k e => by
    have := HB2.out.size
    rcases e with e | e
    · rcases e with e | e
      · exact e.elim
      · omega
    · rcases e with e | e
      · exact e.elim
      · omega
  have hg3 : w3.heap[w.heap.size]? = some (.cells #[.pointer none, .pointer none] 54 (0, 0)) := (hb3.block _ (Nat.lt_of_lt_of_le hlt1 HB2.out.size)).trans ((HB2.out.block _ hlt1).trans HG1.out)
  have hw3 : Below w.heap.size w w3 := (HB1.out.trans (HB2.out.mono (Nat.le_of_lt hlt1))).trans (hb3.mono (Nat.le_trans (Nat.le_of_lt hlt1) HB2.out.size))
  have HBO := hid hbo
  have HAB := hid hab
  have HW3 := hid hw3
  clear hd3 hb3 hap hbo hab hw3 hrr HD2 HB2 HB1 HG1
  generalize Grow NoOwn w1 w2 = p1 at *
  generalize Grow NoOwn w2 w3 = p2 at *
  go_wp2_with (refine wpList_store_row rfl 54 (.tmp 4) (.tmp 33) rfl w.heap.size #[.pointer (some ⟨a, 0, none⟩), .pointer (some ⟨b, 0, none⟩)] rfl rfl 54 _ hg3 Try.info_pair rfl (pair_one _ _) ?_)
  have hbb := below_setRow HW3.out (Nat.le_refl _) #[Value.pointer (some ⟨a, 0, none⟩), .pointer (some ⟨b, 0, none⟩)]
  have hgg : (w3.setRow w.heap.size #[.pointer (some ⟨a, 0, none⟩), .pointer (some ⟨b, 0, none⟩)]).heap[w.heap.size]? = some (.cells #[.pointer (some ⟨a, 0, none⟩), .pointer (some ⟨b, 0, none⟩)] 54 (0, 0)) := setRow_heap w3 _ _ _ _ _ hg3
  have hfr : Fr (fun k => k = w.heap.size) w3 (w3.setRow w.heap.size #[.pointer (some ⟨a, 0, none⟩), .pointer (some ⟨b, 0, none⟩)]) := ⟨rfl, rfl, rfl, by simp, fun k _ hk => setRow_other w3 _ k _ hk⟩
  have HBO2 := hid (HBO.out.fr hfr (fun k e1 e2 => by have := HAB.out k (.inl e1); omega) (fun k e1 e2 => by have := HAB.out k (.inr e1); omega))
  clear hfr hg3
  generalize w3.setRow w.heap.size #[.pointer (some ⟨a, 0, none⟩), .pointer (some ⟨b, 0, none⟩)] = w4 at hbb hgg HBO2 ⊢
  go_wp2
  refine bodyPost_ret (results_cell_pair Try.results51 _ _ w.heap.size _ _ _ _ rfl hgg Try.underlying54 rfl Try.info_pair) rfl ⟨a, b, p1, p2, rfl, HBO2.out, fun k e => Nat.le_of_succ_le (HAB.out k e), hbb⟩
end
end Go.Proofs.Ytegekmdechcikaa
