/- ScrubCapacity. -/
import Derived.Test.YtegekmdechcikaaS18
namespace Go.Proofs.Ytegekmdechcikaa
open Go Go.RowKit Go.Sort

theorem write_pends (S : Dv) (t s : Int) (d : ByteArray) {m : Nat} (h : S.pend.length ≤ m) : (S.write t s d).2.pend.length ≤ m := Nat.le_trans (Dv.write_pend t s d) h
theorem capW_keeps (t : Int) : ∀ (k : Nat) (S : Dv), S.Ok → (capW S t k).2.Ok ∧ (capW S t k).2.pend.length ≤ S.pend.length
  | 0, S, h => ⟨h, Nat.le_refl _⟩
  | k + 1, S, h => by
    have h1 := h.write t (k : Int) (markOf (k : Int))
    have h2 := Dv.write_pend (S := S) t (k : Int) (markOf (k : Int))
    unfold capW
    split
    · obtain ⟨a, b⟩ := capW_keeps t k _ h1
      exact ⟨a, Nat.le_trans b h2⟩
    · exact ⟨h1, h2⟩
theorem capE_keeps (t : Int) : ∀ (m s : Nat) (S : Dv), S.Ok → (capE S t s m).2.Ok ∧ (capE S t s m).2.pend.length ≤ S.pend.length
  | 0, _, S, h => ⟨h, Nat.le_refl _⟩
  | m + 1, s, S, h => by
    have h1 := h.write t (s : Int) blank
    have h2 := Dv.write_pend (S := S) t (s : Int) blank
    unfold capE
    split
    · obtain ⟨a, b⟩ := capE_keeps t m (s + 1) _ h1
      exact ⟨a, Nat.le_trans b h2⟩
    · exact ⟨h1, h2⟩
theorem capOf_keeps {S : Dv} (h : S.Ok) (t : Int) : (capOf S t).2.2.Ok ∧ (capOf S t).2.2.pend.length ≤ S.pend.length := by
  have hw := capW_keeps t S.claim.toNat S h
  have he := capE_keeps t (capR (capW S t S.claim.toNat).2 0 S.claim.toNat).1 0 _ hw.1
  unfold capOf
  repeat' split
  · exact ⟨h, Nat.le_refl _⟩
  · exact hw
  · exact hw
  · exact ⟨he.1, Nat.le_trans he.2 hw.2⟩
  · exact ⟨he.1, Nat.le_trans he.2 hw.2⟩
set_option maxRecDepth 100000 in
set_option maxHeartbeats 4000000 in
theorem law_capacity (c r t : Int) (v1 v2 : Value) (l1 : List Hd) (l2 : List Opr) (w : World) (h1 : HeldsAt w v1 l1) (h2 : OpsAt w v2 l2) :
    Calls Try.prog 7 #[.int .i64 c, .int .i64 r, .int .i64 t, v1, v2] w fun e w' => e = .returned (.bool true) ∧ Below w.heap.size w w' := by
  have HL1 := hid h1
  have HL2 := hid h2
  clear h1 h2
  go_enter Try.func7, Try.ntmps7
  go_wp2_with fail
  refine (light27_any HL1.out HL2.out).mono ?_
  rintro e w1 ⟨lr, rfl, hlr, rfl⟩
  cases lr
  case false =>
    go_wp2_with (go_at_call 17; refine (awake27 _).mono ?_; rintro e w2 ⟨rfl, hb2⟩)
    go_ret
    exact ⟨rfl, hb2⟩
  case true =>
    obtain ⟨h60, hsm, hn60⟩ := hlr rfl
    have HSM := hid hsm
    clear hlr hsm
    go_wp2_with fail
    refine (prepared_any c r (clean := False) HL1.out HL2.out HSM.out h60 hn60 (fun h => h.elim)).mono ?_
    rintro e w1 ⟨a, b, o1, o2, S, rfl, hbo, hok, hpe, hab, hb1, _⟩
    have hb2 : Below w1.heap.size w1 (w1.alloc (.cells #[.pointer (some ⟨a, 0, none⟩), .pointer (some ⟨b, 0, none⟩)] 54)) := (Below.refl _ _).alloc (Nat.le_refl _) _
    have HBX := hid (show PairBox (w1.alloc (.cells #[.pointer (some ⟨a, 0, none⟩), .pointer (some ⟨b, 0, none⟩)] 54)) w1.heap.size a b from heap_alloc_new w1 _)
    have HBO := hid (hbo.below hb2)
    have HNQ := hid (show ¬ Or o1 o2 w1.heap.size from fun e => by have := hbo.under _ e; omega)
    have HAB := hid hab
    have hw2 := hb1.trans (hb2.mono hb1.size)
    have OK := hid (And.intro hok hpe)
    have HK := hid (capOf_keeps hok t)
    clear hb1 hb2 hbo hab hok hpe HL1 HL2 HSM h60 hn60
    go_upto_region 4 with fail
    generalize w1.alloc (.cells #[.pointer (some ⟨a, 0, none⟩), .pointer (some ⟨b, 0, none⟩)] 54) = w2 at *
    generalize w1.heap.size = q at *
    have z0 := HBX.out.cells.1
    go_wp2_with fail
    refine (capacity_any HBO.out.drv OK.out.1 t).mono ?_
    rintro e w3 ⟨rfl, hd3, hf3⟩
    have HD3 := hid hd3
    have HR3 := hid (HBO.out.ref.fr hf3 HBO.out.apart.symm)
    have HBX3 := hid (HBX.out.fr hf3 (fun e => HNQ.out (.inl e)))
    have hw3 := below_of_fr hw2 hf3 (fun k e => HAB.out k (.inl e)) hw2.size
    have HU := hid (show Apart o1 o2 from HBO.out.apart)
    clear hd3 hf3 HBX HBO hw2 z0
    have z1 := HBX3.out.cells.2
    go_wp2_with fail
    refine (capacity_ref HR3.out OK.out.1 (by have := OK.out.2; omega) t).mono ?_
    rintro e w4 ⟨rfl, hg4⟩
    have HBO4 := hid (show Both w4 o1 (Grow o2 w3 w4) a b (capOf S t).2.2 from ⟨HD3.out.fr hg4.fr HU.out, hg4.ref, (hg4.fr.mv.apart HD3.out.under HU.out.symm).symm⟩)
    have HBX4 := hid (HBX3.out.fr hg4.fr (fun e => HNQ.out (.inr e)))
    have hw4 := below_of_fr hw3 hg4.fr (fun k e => HAB.out k (.inr e)) hw3.size
    clear hg4 HD3 HR3 HBX3 hw3 z1 HU HNQ HAB
    generalize capOf S t = y at *
    obtain ⟨y1, y2, F⟩ := y
    dsimp only at *
    generalize Grow o2 w3 w4 = o4 at *
    have hs1 := int_self y1
    have hs2 := int_self y2
    go_wp2_with fail
    refine (awake27 _).mono ?_
    rintro e w5 ⟨rfl, hb5⟩
    have HBO5 := hid (HBO4.out.below hb5)
    have HBX5 := hid (HBX4.out.below hb5)
    have hw5 := hw4.trans (hb5.mono hw4.size)
    clear hb5 HBO4 HBX4 hw4
    have z0 := HBX5.out.cells.1
    have z1 := HBX5.out.cells.2
    go_wp2_with fail
    refine (alike_any HBO5.out HK.out.1).mono ?_
    rintro e w6 ⟨rfl, hb6⟩
    have HW := hid (hw5.trans (hb6.mono hw5.size))
    clear hb6 HBO5 HBX5 hw5 z0 z1
    go_wp2
    go_ret
    exact ⟨rfl, HW.out⟩
end Go.Proofs.Ytegekmdechcikaa
