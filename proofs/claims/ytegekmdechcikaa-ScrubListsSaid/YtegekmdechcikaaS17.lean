/- SameHeld; ScrubLists. -/
import Derived.Test.YtegekmdechcikaaS16
namespace Go.Proofs.Ytegekmdechcikaa
open Go Go.RowKit Go.Sort

set_option maxRecDepth 100000 in
set_option maxHeartbeats 4000000 in
theorem law_lists (c r : Int) (v1 v2 v3 : Value) (l1 : List Hd) (l2 l3 : List Opr) (w : World) (h1 : HeldsAt w v1 l1) (h2 : OpsAt w v2 l2) (h3 : OpsAt w v3 l3) :
    Calls Try.prog 8 #[.int .i64 c, .int .i64 r, v1, v2, v3] w fun e w' => e = .returned (.bool true) ∧ Below w.heap.size w w' := by
  have HL1 := hid h1
  have HL2 := hid h2
  have HL3 := hid h3
  obtain ⟨_, _, A3, cap3, rfl, hc3⟩ := h3
  have HC3 := hid hc3
  clear h1 h2 hc3
  go_enter Try.func8, Try.ntmps8
  go_wp2_with fail
  refine (light27_any HL1.out HL2.out).mono ?_
  rintro e w1 ⟨lr, rfl, hlr, rfl⟩
  cases lr
  case false =>
    go_wp2_with (go_at_call 17; refine (awake27 _).mono ?_; rintro e w2 ⟨rfl, hb2⟩)
    go_ret
    exact ⟨rfl, hb2⟩
  case true =>
    obtain ⟨h60, hsm, hn60⟩ := hlr rfl
    have HSM := hid hsm
    clear hlr hsm
    go_wp2_with fail
    refine (light_any HL3.out).mono ?_
    rintro e w1 ⟨lr, rfl, hlr3, rfl⟩
    cases lr
    case false =>
      go_wp2_with (go_at_call 17; refine (awake27 _).mono ?_; rintro e w2 ⟨rfl, hb2⟩)
      go_ret
      exact ⟨rfl, hb2⟩
    case true =>
      have hl60 : l3.length ≤ 60 := hlr3 rfl
      clear hlr3 HL3
      go_wp2_with fail
      refine (prepared_any c r (clean := False) HL1.out HL2.out HSM.out h60 hn60 (fun h => h.elim)).mono ?_
      rintro e w1 ⟨a, b, o1, o2, S, rfl, hbo, hok, hpe, hab, hb1, _⟩
      have hb2 : Below w1.heap.size w1 (w1.alloc (.cells #[.pointer (some ⟨a, 0, none⟩), .pointer (some ⟨b, 0, none⟩)] 54)) := (Below.refl _ _).alloc (Nat.le_refl _) _
      have hbx : PairBox (w1.alloc (.cells #[.pointer (some ⟨a, 0, none⟩), .pointer (some ⟨b, 0, none⟩)] 54)) w1.heap.size a b := heap_alloc_new w1 _
      have hgm : Game w w1.heap.size a b 120 S (w1.alloc (.cells #[.pointer (some ⟨a, 0, none⟩), .pointer (some ⟨b, 0, none⟩)] 54)) o1 o2 :=
        ⟨hbo.below hb2, hok, hpe, hab, fun e => by have := hbo.under _ e; omega, hbx, hb1.trans (hb2.mono hb1.size)⟩
      have HG := hid hgm
      clear hgm hbx hb2 hbo hab hb1 hok hpe HL1 HL2 HSM h60 hn60
      go_upto_region 4 with fail
      generalize w1.alloc (.cells #[.pointer (some ⟨a, 0, none⟩), .pointer (some ⟨b, 0, none⟩)] 54) = w2 at *
      generalize w1.heap.size = q at *
      have z0 := HG.out.box.cells.1
      go_wp2_with fail
      refine (inventory_any HG.out.both.drv HG.out.ok).mono ?_
      rintro e w3 ⟨x3, rfl, hx3, hb3⟩
      have HG3 := hid (HG.out.then hb3)
      have HX3 := hid hx3
      obtain ⟨er, her⟩ : ∃ er, (if S.online = true then (0 : Int) else 105) = er := ⟨_, rfl⟩
      rw [her]
      have HER := hid her
      clear hb3 HG z0 hx3 her
      generalize New w2 = n3 at *
      have z1 := HG3.out.box.cells.2
      go_wp2_with fail
      refine (inventory_ref HG3.out.both.ref HG3.out.ok).mono ?_
      rintro e w4 ⟨x4, rfl, hx4, hb4⟩
      have HG4 := hid (HG3.out.then hb4)
      have HX4 := hid hx4
      have HX5 := hid (OwnSl.below HX3.out hb4)
      rw [HER.out]
      clear hb4 HG3 z1 hx4 HX3
      generalize New w3 = n4 at *
      go_wp2_with fail
      refine (same_held HX5.out HX4.out).mono ?_
      rintro e w5 ⟨rfl, m5, rfl⟩
      have HG5 := hid (HG4.out.then (below_drew _ m5))
      clear HG4 HX4 HX5
      generalize w4.drewN m5 = w5 at *
      have hse : (er != er) = false := by simp
      go_wp2_with fail
      clear hse
      go_loopw [17] (fun i wr => ∃ (k : Nat) (S : Dv) (p1 p2 : Own), k ≤ l3.length ∧ i = .int .i64 k ∧ Hid (Game w q a b (120 + k) S wr p1 p2)) (fun i _ => (l3.length - intOf i).toNat)
      case atStart => exact ⟨0, S, o1, o2, Nat.zero_le _, rfl, HG5⟩
      case round =>
        clear HG5
        obtain ⟨k, S, p1, p2, hk, rfl, HG⟩ := hrel
        by_cases hlt : k < l3.length
        · obtain ⟨bb, off, rfl, hbl, hcell⟩ := HC3.out (by omega)
          have HCC := hid (fun (W : World) (hW : Below w.heap.size w W) (j : Nat) (u : Value) (hu : (l3.flatMap oprCells)[j]? = some u) => (hW.cell (p := ⟨bb, off + j, none⟩) hbl).trans (hcell j u hu))
          clear hcell
          have hx0 : (0 : Int) ≤ (k : Int) := by omega
          have hx1 : (k : Int) < (l3.length : Int) := by omega
          go_upto_region 13 with fail
          have HGD := hid (HG.out.then (w' := wr.drew) ((Below.refl _ _).drew))
          clear HG
          go_region_held3 (fun w' => w'.cell? ⟨q, 0, none⟩ = some (.pointer (some ⟨a, 0, none⟩)) ∧ w'.cell? ⟨q, 1, none⟩ = some (.pointer (some ⟨b, 0, none⟩)) ∧ OpCells w' bb (off + k * 9) l3[k])
            (exact ⟨HGD.out.box.cells.1, HGD.out.box.cells.2, OpsAt.cells (HCC.out _ HGD.out.below) k hlt⟩)
            ((go_at_call 35; refine (do_any HGD.out.both HGD.out.ok (by have := HGD.out.few; omega) l3[k]).mono ?_; rintro e wx ⟨rfl, hmv⟩; obtain ⟨s1, s2, hg2⟩ := HGD.out.do_ l3[k] hmv; replace HGD := hid hg2; clear hg2 hmv))
          go_wp2
          go_roundw
          case rel => exact ⟨k + 1, _, _, _, by omega, by go_num, HGD⟩
          case measure => (simp [intOf]; try omega)
        · obtain rfl : k = l3.length := by omega
          clear hk hlt
          go_wp2_with fail
          refine (awake27 _).mono ?_
          rintro e w6 ⟨rfl, hb6⟩
          have HG6 := hid (HG.out.then hb6)
          clear hb6 HG
          have z0 := HG6.out.box.cells.1
          have z1 := HG6.out.box.cells.2
          go_wp2_with fail
          refine (alike_any HG6.out.both HG6.out.ok).mono ?_
          rintro e w7 ⟨rfl, hb7⟩
          have HW := hid (HG6.out.then hb7).below
          clear hb7 HG6 z0 z1
          go_wp2
          go_ret
          exact ⟨rfl, HW.out⟩
end Go.Proofs.Ytegekmdechcikaa
