/- DrivePlays. -/
import Derived.Test.YtiodfnjblimmbaaEArgs
namespace Go.Proofs.Ytiodfnjblimmbaa
open Go Go.RowKit Go.Sort

/-- The pair lies in block q. -/
def PairBox (w : World) (q a b : Nat) : Prop := w.heap[q]? = some (.cells #[.pointer (some ⟨a, 0, none⟩), .pointer (some ⟨b, 0, none⟩)] 37 (0, 0))
theorem PairBox.lt {w : World} {q a b : Nat} (h : PairBox w q a b) : q < w.heap.size := (Array.getElem?_eq_some_iff.1 h).1
theorem PairBox.below {w w' : World} {q a b : Nat} (h : PairBox w q a b) (hb : Below w.heap.size w w') : PairBox w' q a b := (hb.block q h.lt).trans h
theorem PairBox.fr {w w' : World} {o : Own} {q a b : Nat} (h : PairBox w q a b) (hf : Fr o w w') (hn : ¬ o q) : PairBox w' q a b := (hf.block q h.lt hn).trans h
theorem PairBox.cells {w : World} {q a b : Nat} (h : PairBox w q a b) : w.cell? ⟨q, 0, none⟩ = some (.pointer (some ⟨a, 0, none⟩)) ∧ w.cell? ⟨q, 1, none⟩ = some (.pointer (some ⟨b, 0, none⟩)) := ⟨cell_block h 0, cell_block h 1⟩
/-- All that is known of a pair in the midst of a law that began in world w0. -/
structure Game (w0 : World) (q a b n : Nat) (S : Dv) (w : World) (o1 o2 : Own) : Prop where
  both : Both w o1 o2 a b S
  ok : S.Ok
  few : S.pend.length ≤ n
  above : Above w0.heap.size (Or o1 o2)
  nq : ¬ Or o1 o2 q
  box : PairBox w q a b
  below : Below w0.heap.size w0 w
theorem Game.le {w0 w : World} {q a b n m : Nat} {S : Dv} {o1 o2 : Own} (h : Game w0 q a b n S w o1 o2) (hm : n ≤ m) : Game w0 q a b m S w o1 o2 := ⟨h.both, h.ok, Nat.le_trans h.few hm, h.above, h.nq, h.box, h.below⟩
theorem Game.then {w0 w w' : World} {q a b n : Nat} {S : Dv} {o1 o2 : Own} (h : Game w0 q a b n S w o1 o2) (hb : Below w.heap.size w w') : Game w0 q a b n S w' o1 o2 :=
  ⟨h.both.below hb, h.ok, h.few, h.above, h.nq, h.box.below hb, h.below.trans (hb.mono h.below.size)⟩
theorem Game.moved {w0 w w' : World} {q a b n : Nat} {S T : Dv} {o1 o2 : Own} (h : Game w0 q a b n S w o1 o2) (hm : Moved w o1 o2 a b T w') (hT : T.Ok) (hn : T.pend.length ≤ S.pend.length + 1) : ∃ p1 p2, Game w0 q a b (n + 1) T w' p1 p2 := by
  obtain ⟨p1, p2, hb, hmv⟩ := hm
  have hB := h.below.size
  refine ⟨p1, p2, hb, hT, by have := h.few; omega, hmv.above h.above hB, fun e => ?_, h.box.fr hmv.fr h.nq, h.below.trans (hmv.fr.below h.above hB)⟩
  rcases hmv.ext q e with e | e
  · exact h.nq e
  · have := h.box.lt; omega
theorem Game.do_ {w0 w w' : World} {q a b n : Nat} {S : Dv} {o1 o2 : Own} (h : Game w0 q a b n S w o1 o2) (x : Opr) (hm : Moved w o1 o2 a b (S.step x) w') : ∃ p1 p2, Game w0 q a b (n + 1) (S.step x) w' p1 p2 := h.moved hm (h.ok.step x) (Dv.step_pend x)

set_option maxRecDepth 100000 in
set_option maxHeartbeats 4000000 in
theorem law_plays (c r : Int) (v : Value) (l : List Opr) (w : World) (hl : OpsAt w v l) :
    Calls Try.prog 10 #[.int .i64 c, .int .i64 r, v] w fun e w' => e = .returned (.bool true) ∧ Below w.heap.size w w' := by
  have HL := hid hl
  obtain ⟨_, hm, A, cap, rfl, hc⟩ := hl
  have HC := hid hc
  unfold maxLen at hm
  clear hc
  go_enter Try.func10, Try.ntmps10
  go_wp2_with fail
  refine (light_any HL.out).mono ?_
  rintro e w1 ⟨lr, rfl, hlr, rfl⟩
  cases lr
  case false =>
    go_wp2_with (go_at_call 16; refine (awake26 _).mono ?_; rintro e w2 ⟨rfl, hb2⟩)
    go_ret
    exact ⟨rfl, hb2⟩
  case true =>
    have hl60 : l.length ≤ 60 := hlr rfl
    clear hlr HL
    go_wp2_with fail
    refine (make_any c r _).mono ?_
    rintro e w1 ⟨a, b, o1, o2, rfl, hbo, hab, hb1⟩
    have hb2 : Below w1.heap.size w1 (w1.alloc (.cells #[.pointer (some ⟨a, 0, none⟩), .pointer (some ⟨b, 0, none⟩)] 37)) := (Below.refl _ _).alloc (Nat.le_refl _) _
    have hbx : PairBox (w1.alloc (.cells #[.pointer (some ⟨a, 0, none⟩), .pointer (some ⟨b, 0, none⟩)] 37)) w1.heap.size a b := heap_alloc_new w1 _
    obtain ⟨m1, m2, m3, _⟩ := mk_ok c r
    have hgm : Game w w1.heap.size a b 0 (newDv (mkC c) (mkR c r)) (w1.alloc (.cells #[.pointer (some ⟨a, 0, none⟩), .pointer (some ⟨b, 0, none⟩)] 37)) o1 o2 :=
      ⟨hbo.below hb2, newDv_ok _ _ m1 m2 m3, Nat.le_refl _, hab, fun e => by have := hbo.under _ e; omega, hbx, hb1.trans (hb2.mono hb1.size)⟩
    have HG := hid hgm
    clear hgm hbx hb2 hbo hab hb1 m1 m2 m3
    go_upto_region 4 with fail
    generalize w1.alloc (.cells #[.pointer (some ⟨a, 0, none⟩), .pointer (some ⟨b, 0, none⟩)] 37) = w2 at *
    generalize w1.heap.size = q at *
    generalize newDv (mkC c) (mkR c r) = S0 at *
    go_wp2_with fail
    go_loopw [9] (fun i wr => ∃ (k : Nat) (S : Dv) (p1 p2 : Own), k ≤ l.length ∧ i = .int .i64 k ∧ Hid (Game w q a b k S wr p1 p2)) (fun i _ => (l.length - intOf i).toNat)
    case atStart => exact ⟨0, S0, o1, o2, Nat.zero_le _, rfl, HG⟩
    case round =>
      clear HG
      obtain ⟨k, S, p1, p2, hk, rfl, HG⟩ := hrel
      by_cases hlt : k < l.length
      · obtain ⟨bb, off, rfl, hbl, hcell⟩ := HC.out (by omega)
        have HCC := hid (fun (W : World) (hW : Below w.heap.size w W) (j : Nat) (u : Value) (hu : (l.flatMap oprCells)[j]? = some u) => (hW.cell (p := ⟨bb, off + j, none⟩) hbl).trans (hcell j u hu))
        clear hcell
        have hx0 : (0 : Int) ≤ (k : Int) := by omega
        have hx1 : (k : Int) < (l.length : Int) := by omega
        go_upto_region 9 with fail
        have HGD := hid (HG.out.then (w' := wr.drew) ((Below.refl _ _).drew))
        clear HG
        go_region_held3 (fun w' => w'.cell? ⟨q, 0, none⟩ = some (.pointer (some ⟨a, 0, none⟩)) ∧ w'.cell? ⟨q, 1, none⟩ = some (.pointer (some ⟨b, 0, none⟩)) ∧ w'.cell? ⟨bb, off + k * 9, none⟩ = some (.int .i64 l[k].kind) ∧ w'.cell? ⟨bb, off + k * 9 + 1, none⟩ = some (.int .i64 l[k].term) ∧ w'.cell? ⟨bb, off + k * 9 + 2, none⟩ = some (.int .i64 l[k].slot) ∧ w'.cell? ⟨bb, off + k * 9 + 3, none⟩ = some (.string l[k].data) ∧
            w'.cell? ⟨bb, off + k * 9 + 4, none⟩ = some (.int .i64 l[k].fault.kind) ∧ w'.cell? ⟨bb, off + k * 9 + 5, none⟩ = some (.int .i64 l[k].fault.slot) ∧ w'.cell? ⟨bb, off + k * 9 + 6, none⟩ = some (.int .i64 l[k].fault.bit) ∧ w'.cell? ⟨bb, off + k * 9 + 7, none⟩ = some (.int .i64 l[k].fault.mask) ∧ w'.cell? ⟨bb, off + k * 9 + 8, none⟩ = some (.int .i64 l[k].fault.dest))
          (exact ⟨HGD.out.box.cells.1, HGD.out.box.cells.2, OpsAt.cells (HCC.out _ HGD.out.below) k hlt⟩)
          ((first
            | (go_at_call 31; refine (do_any HGD.out.both HGD.out.ok (by have := HGD.out.few; omega) l[k]).mono ?_; rintro e wx ⟨rfl, hmv⟩; obtain ⟨s1, s2, hg2⟩ := HGD.out.do_ l[k] hmv; replace HGD := hid hg2; clear hg2 hmv)
            | (go_at_call 21; refine (alike_any HGD.out.both HGD.out.ok).mono ?_; rintro e wx ⟨rfl, hby⟩; replace HGD := hid (HGD.out.then hby); clear hby)))
        go_wp2
        go_roundw
        case rel => exact ⟨k + 1, _, _, _, by omega, by go_num, HGD⟩
        case measure => (simp [intOf]; try omega)
      · have HW := hid HG.out.below
        clear HG
        go_wp2_with (go_at_call 16; refine (awake26 _).mono ?_; rintro e w2 ⟨rfl, hb2⟩)
        go_ret
        exact ⟨rfl, HW.out.trans (hb2.mono HW.out.size)⟩
end Go.Proofs.Ytiodfnjblimmbaa
