/- Pieces out of Near and their sectors; light. -/
import Derived.Test.YtegekmdechcikaaSB
namespace Go.Proofs.Ytegekmdechcikaa
open Go Go.RowKit Go.Sort

def nearP (p : Pc) : Pc := ⟨p.vol % 12, p.frag % 8, p.stripe % 4, 1 + p.gen % 1099511627775, 1 + p.ver % 1099511627775, ⟨(nearB p.data).toArray⟩⟩
def Pc.ok (p : Pc) : Bool := validB p.vol p.frag p.stripe p.gen p.ver p.data.size
theorem near_p (p : Pc) (w : World) (hd : p.data.size ≤ maxLen) :
    Calls Try.prog 12 #[p.val] w fun e w' => e = .returned (nearP p).val ∧ Below w.heap.size w w' := near_any p.vol p.frag p.stripe p.gen p.ver p.data w hd
theorem nearP_ok (p : Pc) : (nearP p).ok = true := by
  have := near_valid p.vol p.frag p.stripe p.gen p.ver 16 rfl
  have hs : (nearP p).data.size = 16 := by
    show (nearP p).data.data.size = 16
    rw [← Array.length_toList]
    exact nearB_length p.data
  unfold Pc.ok
  rw [hs]
  exact this
def encP (p : Pc) : ByteArray := ⟨(encL p.vol p.frag p.stripe p.gen p.ver p.data.data.toList).toArray⟩
theorem enc_p (p : Pc) (w : World) (hv : p.ok = true) :
    Calls Try.prog 14 #[p.val] w fun e w' => e = .returned (.tuple #[.string (encP p), .int .i64 0]) ∧ Below w.heap.size w w' := enc_ref_yes p.vol p.frag p.stripe p.gen p.ver p.data w hv
theorem ok_len {p : Pc} (hv : p.ok = true) : p.data.data.toList.length = 16 := by
  unfold Pc.ok validB at hv
  rw [decide_eq_true_eq] at hv
  have := hv.2.2.2.2.2.2.2.2.2.2
  rw [Array.length_toList]
  exact this
theorem encP_size {p : Pc} (hv : p.ok = true) : (encP p).size = 36 := by
  show (encP p).data.size = 36
  rw [← Array.length_toList]
  exact encL_length _ _ _ _ _ _ (ok_len hv)
theorem encP_dec {p : Pc} (hv : p.ok = true) : errOf (encP p).data.toList = 0 ∧ pieceOf (encP p).data.toList = p := by
  have hv2 : validB p.vol p.frag p.stripe p.gen p.ver p.data.data.toList.length = true := by rw [Array.length_toList]; exact hv
  have hl : (encP p).data.toList = encL p.vol p.frag p.stripe p.gen p.ver p.data.data.toList := by unfold encP; simp
  rw [hl]
  obtain ⟨a0, a1, a2, a3, a4, a5, a6⟩ := dec_enc _ _ _ _ _ _ hv2
  refine ⟨a0, ?_⟩
  unfold pieceOf
  rw [if_pos a0, a1, a2, a3, a4, a5, a6]
theorem hd_length (x : Hd) : x.cells.length = 7 := rfl
/-- Pieces that came in. -/
abbrev HeldsAt (w : World) (v : Value) (l : List Hd) : Prop := ArgSl w 7 v l.length (l.flatMap Hd.cells)
theorem HeldsAt.cell {w : World} {b off : Nat} {l : List Hd} (h : ∀ j u, (l.flatMap Hd.cells)[j]? = some u → w.cell? ⟨b, off + j, none⟩ = some u) (k : Nat) (hk : k < l.length) (j : Nat) (u : Value) (hj : j < 7) (hv : l[k].cells[j]? = some u) :
    w.cell? ⟨b, off + k * 7 + j, none⟩ = some u := by
  rw [Nat.add_assoc]
  exact h _ _ ((flat_get Hd.cells 7 hd_length l k hk j hj).trans hv)
/-- Few and short. -/
def Light27 (l1 : List Hd) (n : Nat) (w : World) (e : Ending) (w' : World) : Prop := ∃ r, e = .returned (.bool r) ∧ (r = true → l1.length ≤ 60 ∧ (∀ x ∈ l1, x.pc.data.size ≤ 100) ∧ n ≤ 60) ∧ w = w'
set_option maxHeartbeats 1000000 in
theorem light27_any {w : World} {v1 v2 : Value} {l1 : List Hd} {l2 : List Opr} (h1 : HeldsAt w v1 l1) (h2 : OpsAt w v2 l2) :
    Calls Try.prog 23 #[v1, v2] w (Light27 l1 l2.length w) := by
  have H2 := hid h2
  clear h2
  obtain ⟨_, hm, A, c, rfl, hc⟩ := h1
  unfold maxLen at hm
  have HC := hid hc
  clear hc
  go_enter Try.func23, Try.ntmps23
  go_wp2
  go_loop [5] (fun i => ∃ k : Nat, k ≤ l1.length ∧ k ≤ 100 ∧ i = .int .i64 k ∧ Hid (∀ j (h : j < l1.length), j < k → l1[j].pc.data.size ≤ 100)) (fun i => (100 - intOf i).toNat)
  case atStart => exact ⟨0, Nat.zero_le _, by omega, rfl, fun j h1 h2 => by omega⟩
  case round =>
    obtain ⟨k, hk, hk2, rfl, HS⟩ := hrel
    by_cases hgo : k < l1.length ∧ k < 100
    · obtain ⟨hlt, h100⟩ := hgo
      obtain ⟨b, off, rfl, hbl, hcell⟩ := HC.out (by omega)
      have c3 := HeldsAt.cell hcell k hlt 6 _ (by omega) rfl
      clear hcell
      have HK := hid (show l1[k].pc.data.size ≤ 100 → ∀ j (h : j < l1.length), j < k + 1 → l1[j].pc.data.size ≤ 100 from fun e j h hj => by
        by_cases hjk : j = k
        · subst hjk; exact e
        · exact HS.out j h (by omega))
      by_cases hd : 100 < l1[k].pc.data.size
      · generalize l1[k].pc.data = d at *
        go_wp2
        go_ret
        exact ⟨false, rfl, by simp, rfl⟩
      · have HK2 := hid (HK.out (by omega))
        clear HK
        generalize l1[k].pc.data = d at *
        go_wp2
        go_round
        case rel => exact ⟨k + 1, by omega, by omega, by go_num, HK2⟩
        case measure => (simp [intOf]; try omega)
    · have HF := hid (show l1.length ≤ 60 → ∀ x ∈ l1, x.pc.data.size ≤ 100 from fun hle x hx => by
        obtain ⟨j, hj, rfl⟩ := List.getElem_of_mem hx
        exact HS.out j hj (by omega))
      by_cases h60 : l1.length ≤ 60
      · have hle : (l1.length : Int) ≤ 60 := by omega
        by_cases hlt : k < l1.length
        · exact absurd ⟨hlt, by omega⟩ hgo
        · clear hgo
          go_wp2_with fail
          refine (light_any H2.out).mono ?_
          rintro e w1 ⟨r, rfl, hr, rfl⟩
          go_wp2
          go_ret
          exact ⟨r, rfl, fun e => ⟨h60, HF.out h60, hr e⟩, rfl⟩
      · by_cases hlt : k < l1.length
        · have h100 : 100 ≤ k := by omega
          clear hgo
          go_wp2
          go_ret
          exact ⟨_, rfl, fun h => by simp at h; try omega, rfl⟩
        · clear hgo
          go_wp2
          go_ret
          exact ⟨_, rfl, fun h => by simp at h; try omega, rfl⟩
end Go.Proofs.Ytegekmdechcikaa

/- Prepared. -/
namespace Go.Proofs.Ytegekmdechcikaa
open Go Go.RowKit Go.Sort

def zflt : Flt := ⟨0, 0, 0, 0, 0⟩
theorem Fine.put {S : Dv} {n m : Nat} (h : Fine S n m 0) (s : Int) (h0 : 0 ≤ s) (h1 : s < n) (d : ByteArray) (hd : d.size = 36) : Fine (S.step ⟨1, 0, s, d, zflt⟩) n m 0 := by
  obtain ⟨k, rfl⟩ := Int.eq_ofNat_of_zero_le h0
  obtain ⟨e, h2⟩ := h.write k (by omega) d hd
  show Fine (S.write 0 (k : Int) d).2 n m 0
  rw [e]
  exact h2
/-- What Prepared answers. -/
def Prep (w : World) (c r : Int) (clean : Prop) (n : Nat) (e : Ending) (w' : World) : Prop := ∃ a b o1 o2 S, e = .returned (.tuple #[.agg #[.pointer (some ⟨a, 0, none⟩), .pointer (some ⟨b, 0, none⟩)], .bool true]) ∧ Both w' o1 o2 a b S ∧ S.Ok ∧ S.pend.length ≤ n ∧ Above w.heap.size (Or o1 o2) ∧ Below w.heap.size w w' ∧ (clean → Fine S (mkC c).toNat (mkR c r) 0)
set_option maxRecDepth 100000 in
set_option maxHeartbeats 4000000 in
theorem prepared_any (c r : Int) {clean : Prop} {w : World} {v1 v2 : Value} {l1 : List Hd} {l2 : List Opr} (h1 : HeldsAt w v1 l1) (h2 : OpsAt w v2 l2) (hd : ∀ x ∈ l1, x.pc.data.size ≤ 100) (hn1 : l1.length ≤ 60) (hn2 : l2.length ≤ 60) (hcl : clean → l2.length = 0) :
    Calls Try.prog 24 #[.int .i64 c, .int .i64 r, v1, v2] w (Prep w c r clean 120) := by
  obtain ⟨_, _, A1, cap1, rfl, hc1⟩ := h1
  obtain ⟨_, _, A2, cap2, rfl, hc2⟩ := h2
  have HC1 := hid hc1
  have HC2 := hid hc2
  have HSM := hid hd
  have HCL := hid hcl
  clear hc1 hc2 hd hcl
  go_enter Try.func24, Try.ntmps24
  go_upto_region 1 with fail
  have hb1 : Below w.heap.size w (w.alloc (.cells #[.pointer none, .pointer none] 54)) := (Below.refl _ _).alloc (Nat.le_refl _) _
  have HB1 := hid hb1
  have HG1 := hid (heap_alloc_new w (.cells #[Value.pointer none, .pointer none] 54))
  clear hb1
  generalize w.alloc (.cells #[.pointer none, .pointer none] 54) = w1 at *
  go_wp2_with fail
  refine (make_any c r _).mono ?_
  rintro e w2 ⟨a, b, o1, o2, rfl, hbo, hab, hb2⟩
  have hlt1 : w.heap.size < w1.heap.size := (Array.getElem?_eq_some_iff.1 HG1.out).1
  have hb3 : Below w2.heap.size w2 (w2.alloc (.cells #[.pointer (some ⟨a, 0, none⟩), .pointer (some ⟨b, 0, none⟩)] 54)) := (Below.refl _ _).alloc (Nat.le_refl _) _
  have hbx : PairBox (w2.alloc (.cells #[.pointer (some ⟨a, 0, none⟩), .pointer (some ⟨b, 0, none⟩)] 54)) w2.heap.size a b := heap_alloc_new w2 _
  obtain ⟨m1, m2, m3, _⟩ := mk_ok c r
  have hgm : Game w1 w2.heap.size a b 0 (newDv (mkC c) (mkR c r)) (w2.alloc (.cells #[.pointer (some ⟨a, 0, none⟩), .pointer (some ⟨b, 0, none⟩)] 54)) o1 o2 :=
    ⟨hbo.below hb3, newDv_ok _ _ m1 m2 m3, Nat.le_refl _, hab, fun e => by have := hbo.under _ e; omega, hbx, hb2.trans (hb3.mono hb2.size)⟩
  have hfi : Fine (newDv (mkC c) (mkR c r)) (mkC c).toNat (mkR c r) 0 := by
    have := fine_new (mkC c).toNat (mkR c r) 0 m1 (by omega) (by omega) (by omega)
    rwa [show (((mkC c).toNat : Nat) : Int) = mkC c by omega] at this
  have HG := hid hgm
  have HFI := hid hfi
  have HLT := hid hlt1
  have HM := hid (show ((mkC c).toNat : Int) = mkC c ∧ 1 ≤ mkC c ∧ mkC c ≤ 128 by omega)
  clear hgm hbx hb2 hb3 hbo hab m1 m2 m3 hfi hlt1
  go_upto_region 2 with fail
  generalize w2.alloc (.cells #[.pointer (some ⟨a, 0, none⟩), .pointer (some ⟨b, 0, none⟩)] 54) = w3 at *
  generalize w2.heap.size = q at *
  generalize newDv (mkC c) (mkR c r) = S0 at *
  go_wp2_with fail
  go_loopw [12] (fun i wr => ∃ (k : Nat) (S : Dv) (p1 p2 : Own), k ≤ l1.length ∧ i = .int .i64 k ∧ Hid (Game w1 q a b k S wr p1 p2) ∧ Hid (Fine S (mkC c).toNat (mkR c r) 0)) (fun i _ => (l1.length - intOf i).toNat)
  case atStart => exact ⟨0, S0, o1, o2, Nat.zero_le _, rfl, HG, HFI⟩
  case round =>
    clear HG HFI
    obtain ⟨k, S, p1, p2, hk, rfl, HG, HFI⟩ := hrel
    by_cases hlt : k < l1.length
    · obtain ⟨bb, off, rfl, hbl, hcell⟩ := HC1.out (by omega)
      have HBL := hid hbl
      have HCC := hid (fun (W : World) (hW : Below w1.heap.size w1 W) (j : Nat) (u : Value) (hu : (l1.flatMap Hd.cells)[j]? = some u) => ((HB1.out.trans (hW.mono (Nat.le_of_lt HLT.out))).cell (p := ⟨bb, off + j, none⟩) HBL.out).trans (hcell j u hu))
      clear hcell hbl
      have hx0 : (0 : Int) ≤ (k : Int) := by omega
      have hx1 : (k : Int) < (l1.length : Int) := by omega
      have hsm := HSM.out l1[k] (List.getElem_mem _)
      have z1 := HeldsAt.cell (HCC.out wr HG.out.below) k hlt 1 _ (by omega) rfl
      have z2 := HeldsAt.cell (HCC.out wr HG.out.below) k hlt 2 _ (by omega) rfl
      have z3 := HeldsAt.cell (HCC.out wr HG.out.below) k hlt 3 _ (by omega) rfl
      have z4 := HeldsAt.cell (HCC.out wr HG.out.below) k hlt 4 _ (by omega) rfl
      have z5 := HeldsAt.cell (HCC.out wr HG.out.below) k hlt 5 _ (by omega) rfl
      have z6 := HeldsAt.cell (HCC.out wr HG.out.below) k hlt 6 _ (by omega) rfl
      have HZ := hid (fun (W : World) (hW : Below w1.heap.size w1 W) => (show W.cell? ⟨bb, off + k * 7, none⟩ = some (.int .i64 l1[k].slot) from HeldsAt.cell (HCC.out W hW) k hlt 0 _ (by omega) rfl))
      clear HCC
      generalize l1[k] = x at *
      go_wp2_with fail
      refine (near_p x.pc wr (by unfold maxLen; omega)).mono ?_
      rintro e w4 ⟨rfl, hb4⟩
      have HG4 := hid (HG.out.then hb4)
      clear hb4 HG z1 z2 z3 z4 z5 z6 hsm
      have hok := nearP_ok x.pc
      have HEZ := hid (encP_size hok)
      generalize nearP x.pc = p at *
      go_wp2_with fail
      refine (enc_p p w4 hok).mono ?_
      rintro e w5 ⟨rfl, hb5⟩
      have HG5 := hid (HG4.out.then hb5)
      clear hb5 HG4 hok
      generalize encP p = d at *
      generalize x.slot = sl at *
      go_upto_region 8 with fail
      have HGD := hid (HG5.out.then (w' := w5.drew) ((Below.refl _ _).drew))
      clear HG5
      have HP := hid (HFI.out.put (sl % mkC c) (Int.emod_nonneg _ (by have := HM.out.2.1; omega)) (by rw [HM.out.1]; exact Int.emod_lt_of_pos _ (by have := HM.out.2.1; omega)) d HEZ.out)
      go_region_held3 (fun w' => w'.cell? ⟨q, 0, none⟩ = some (.pointer (some ⟨a, 0, none⟩)) ∧ w'.cell? ⟨q, 1, none⟩ = some (.pointer (some ⟨b, 0, none⟩)) ∧ w'.cell? ⟨bb, off + k * 7, none⟩ = some (.int .i64 sl) ∧ w'.cell? ⟨b, 0, none⟩ = some (.int .i64 (mkC c)))
        (exact ⟨HGD.out.box.cells.1, HGD.out.box.cells.2, HZ.out _ HGD.out.below, by rw [HGD.out.both.ref.slots, HFI.out.claim, HM.out.1]⟩)
        ((first
          | (go_at_call 13; refine (within_any sl (mkC c) _ HM.out.2.1 (by have := HM.out.2.2; omega)).mono ?_; rintro e wx ⟨rfl, rfl⟩)
          | (go_at_call 35; refine (do_any HGD.out.both HGD.out.ok (by have := HGD.out.few; omega) ⟨1, 0, sl % mkC c, d, zflt⟩).mono ?_; rintro e wx ⟨rfl, hmv⟩; obtain ⟨s1, s2, hg2⟩ := HGD.out.do_ _ hmv; replace HGD := hid hg2; replace HFI := HP; clear hg2 hmv)))
      go_wp2
      go_roundw
      case rel => exact ⟨k + 1, _, _, _, by omega, by go_num, HGD, HFI⟩
      case measure => (simp [intOf]; try omega)
    · obtain rfl : k = l1.length := by omega
      have HG2 := hid (HG.out.le (m := 60) hn1)
      have HFI2 := hid (show l2.length = 0 → Fine S (mkC c).toNat (mkR c r) 0 from fun _ => HFI.out)
      clear HG HFI hk
      go_wp2_with fail
      go_loopw [15] (fun i wr => ∃ (k : Nat) (S : Dv) (p1 p2 : Own), k ≤ l2.length ∧ i = .int .i64 k ∧ Hid (Game w1 q a b (60 + k) S wr p1 p2) ∧ Hid (l2.length = 0 → Fine S (mkC c).toNat (mkR c r) 0)) (fun i _ => (l2.length - intOf i).toNat)
      case atStart => exact ⟨0, S, p1, p2, Nat.zero_le _, rfl, HG2, HFI2⟩
      case round =>
        clear HG2 HFI2
        obtain ⟨k, S, p1, p2, hk, rfl, HG, HFI⟩ := hrel
        by_cases hlt : k < l2.length
        · obtain ⟨bb, off, rfl, hbl, hcell⟩ := HC2.out (by omega)
          have HBL := hid hbl
          have HCC := hid (fun (W : World) (hW : Below w1.heap.size w1 W) (j : Nat) (u : Value) (hu : (l2.flatMap oprCells)[j]? = some u) => ((HB1.out.trans (hW.mono (Nat.le_of_lt HLT.out))).cell (p := ⟨bb, off + j, none⟩) HBL.out).trans (hcell j u hu))
          have HF2 := hid (fun T : Dv => show l2.length = 0 → Fine T (mkC c).toNat (mkR c r) 0 from fun h => by omega)
          clear hcell hbl HFI
          have hx0 : (0 : Int) ≤ (k : Int) := by omega
          have hx1 : (k : Int) < (l2.length : Int) := by omega
          go_upto_region 13 with fail
          have HGD := hid (HG.out.then (w' := wr.drew) ((Below.refl _ _).drew))
          clear HG
          go_region_held3 (fun w' => w'.cell? ⟨q, 0, none⟩ = some (.pointer (some ⟨a, 0, none⟩)) ∧ w'.cell? ⟨q, 1, none⟩ = some (.pointer (some ⟨b, 0, none⟩)) ∧ w'.cell? ⟨bb, off + k * 9, none⟩ = some (.int .i64 l2[k].kind) ∧ w'.cell? ⟨bb, off + k * 9 + 1, none⟩ = some (.int .i64 l2[k].term) ∧ w'.cell? ⟨bb, off + k * 9 + 2, none⟩ = some (.int .i64 l2[k].slot) ∧ w'.cell? ⟨bb, off + k * 9 + 3, none⟩ = some (.string l2[k].data) ∧
              w'.cell? ⟨bb, off + k * 9 + 4, none⟩ = some (.int .i64 l2[k].fault.kind) ∧ w'.cell? ⟨bb, off + k * 9 + 5, none⟩ = some (.int .i64 l2[k].fault.slot) ∧ w'.cell? ⟨bb, off + k * 9 + 6, none⟩ = some (.int .i64 l2[k].fault.bit) ∧ w'.cell? ⟨bb, off + k * 9 + 7, none⟩ = some (.int .i64 l2[k].fault.mask) ∧ w'.cell? ⟨bb, off + k * 9 + 8, none⟩ = some (.int .i64 l2[k].fault.dest))
            (exact ⟨HGD.out.box.cells.1, HGD.out.box.cells.2, OpsAt.cells (HCC.out _ HGD.out.below) k hlt⟩)
            ((go_at_call 35; refine (do_any HGD.out.both HGD.out.ok (by have := HGD.out.few; omega) l2[k]).mono ?_; rintro e wx ⟨rfl, hmv⟩; obtain ⟨s1, s2, hg2⟩ := HGD.out.do_ l2[k] hmv; replace HGD := hid hg2; clear hg2 hmv))
          have HF3 := hid (HF2.out (S.step l2[k]))
          go_wp2
          go_roundw
          case rel => exact ⟨k + 1, _, _, _, by omega, by go_num, HGD, HF3⟩
          case measure => (simp [intOf]; try omega)
        · have HG3 := hid (HG.out.le (m := 120) (by omega))
          obtain rfl : k = l2.length := by omega
          clear HG hk hlt
          have z0 := HG3.out.box.cells.1
          have z1 := HG3.out.box.cells.2
          have hg3 := (HG3.out.below.block _ HLT.out).trans HG1.out
          have hwl := Nat.lt_of_lt_of_le HLT.out HG3.out.below.size
          have HW3 := hid (HB1.out.trans (HG3.out.below.mono (Nat.le_of_lt HLT.out)))
          go_wp2_with (refine wpList_store_row rfl 54 (.tmp 8) (.tmp 72) rfl w.heap.size #[.pointer (some ⟨a, 0, none⟩), .pointer (some ⟨b, 0, none⟩)] rfl rfl 54 _ hg3 Try.info_pair rfl (pair_one _ _) ?_)
          have hbb := below_setRow HW3.out (Nat.le_refl _) #[Value.pointer (some ⟨a, 0, none⟩), .pointer (some ⟨b, 0, none⟩)]
          have hgg : (wr.setRow w.heap.size #[.pointer (some ⟨a, 0, none⟩), .pointer (some ⟨b, 0, none⟩)]).heap[w.heap.size]? = some (.cells #[.pointer (some ⟨a, 0, none⟩), .pointer (some ⟨b, 0, none⟩)] 54 (0, 0)) := setRow_heap wr _ _ _ _ _ hg3
          have hfr : Fr (fun k => k = w.heap.size) wr (wr.setRow w.heap.size #[.pointer (some ⟨a, 0, none⟩), .pointer (some ⟨b, 0, none⟩)]) := ⟨rfl, rfl, rfl, by simp, fun k _ hk => setRow_other wr _ k _ hk⟩
          have HBO2 := hid (HG3.out.both.fr hfr (fun k e1 e2 => by have := HG3.out.above k (.inl e1); have := HLT.out; omega) (fun k e1 e2 => by have := HG3.out.above k (.inr e1); have := HLT.out; omega))
          clear hfr hg3 z0 z1
          generalize wr.setRow w.heap.size #[.pointer (some ⟨a, 0, none⟩), .pointer (some ⟨b, 0, none⟩)] = w4 at hbb hgg HBO2 ⊢
          go_wp2
          refine bodyPost_ret (results_cell_pair Try.results24 _ _ w.heap.size _ _ _ _ rfl hgg Try.underlying54 rfl Try.info_pair) rfl ⟨a, b, p1, p2, S, rfl, HBO2.out, HG3.out.ok, HG3.out.few, fun k e => Nat.le_trans (Nat.le_of_lt HLT.out) (HG3.out.above k e), hbb, fun h => HFI.out (HCL.out h)⟩
end Go.Proofs.Ytegekmdechcikaa

/- Arguments: pieces held, pieces wanted. -/
namespace Go.Proofs.Ytegekmdechcikaa
open Go Go.RowKit Go.Sort Go.ChangeShapes Go.WideShapes Go.Deep
section
variable {H : Type} {enc : TypeId × Value → H} {w : World} {base : Nat} {spare : Nat → Bool} {held : Bool}
set_option maxRecDepth 100000 in
theorem held_one (fuel : Nat) (cs : List Value) (x : DataW H × List MemPlace) (h : DataW.trod enc Try.prog w base spare held fuel 58 cs = some x) : ∃ a, cs = Hd.cells a := by
  obtain ⟨xs, n, _, _, hlen, hxl, hfield⟩ := DataW.trod_struct Try.underlying58 h
  rw [show Try.prog.cellsOf 58 = 7 by kernel_rfl] at hlen
  match cs, hlen with
  | [a0, a1, a2, a3, a4, a5, a6], _ =>
    have hx : ∀ j, j < 2 → ∃ y, xs[j]? = some y := fun j hj => ⟨_, List.getElem?_eq_getElem (by rw [hxl]; exact hj)⟩
    have c1 : Try.prog.cellsOf 3 = 1 := by kernel_rfl
    have c2 : Try.prog.cellsOf 9 = 1 := by kernel_rfl
    have c6 : Try.prog.cellsOf 23 = 6 := by kernel_rfl
    obtain ⟨y0, e0⟩ := hx 0 (by omega)
    obtain ⟨y1, e1⟩ := hx 1 (by omega)
    have z0 := (hfield 0 _ rfl).trans e0
    have z1 := (hfield 1 _ rfl).trans e1
    change DataW.trod enc Try.prog w base spare held n 3 ((List.drop 0 [a0, a1, a2, a3, a4, a5, a6]).take (Try.prog.cellsOf 3)) = some y0 at z0
    change DataW.trod enc Try.prog w base spare held n 23 ((List.drop 1 [a0, a1, a2, a3, a4, a5, a6]).take (Try.prog.cellsOf 23)) = some y1 at z1
    rw [c1] at z0
    rw [c6] at z1
    obtain ⟨k, u0, _, _⟩ := DataW.trod_int Try.underlying3 z0
    obtain ⟨ys, m, _, _, _, hyl, hff⟩ := DataW.trod_struct Try.underlying23 z1
    have hy : ∀ j, j < 6 → ∃ y, ys[j]? = some y := fun j hj => ⟨_, List.getElem?_eq_getElem (by rw [hyl]; exact hj)⟩
    obtain ⟨y0, e0⟩ := hy 0 (by omega)
    obtain ⟨y1, e1⟩ := hy 1 (by omega)
    obtain ⟨y2, e2⟩ := hy 2 (by omega)
    obtain ⟨y3, e3⟩ := hy 3 (by omega)
    obtain ⟨y4, e4⟩ := hy 4 (by omega)
    obtain ⟨y5, e5⟩ := hy 5 (by omega)
    have w0 := (hff 0 _ rfl).trans e0
    have w1 := (hff 1 _ rfl).trans e1
    have w2 := (hff 2 _ rfl).trans e2
    have w3 := (hff 3 _ rfl).trans e3
    have w4 := (hff 4 _ rfl).trans e4
    have w5 := (hff 5 _ rfl).trans e5
    change DataW.trod enc Try.prog w base spare held m 3 ((List.drop 0 [a1, a2, a3, a4, a5, a6]).take (Try.prog.cellsOf 3)) = some y0 at w0
    change DataW.trod enc Try.prog w base spare held m 3 ((List.drop 1 [a1, a2, a3, a4, a5, a6]).take (Try.prog.cellsOf 3)) = some y1 at w1
    change DataW.trod enc Try.prog w base spare held m 3 ((List.drop 2 [a1, a2, a3, a4, a5, a6]).take (Try.prog.cellsOf 3)) = some y2 at w2
    change DataW.trod enc Try.prog w base spare held m 3 ((List.drop 3 [a1, a2, a3, a4, a5, a6]).take (Try.prog.cellsOf 3)) = some y3 at w3
    change DataW.trod enc Try.prog w base spare held m 3 ((List.drop 4 [a1, a2, a3, a4, a5, a6]).take (Try.prog.cellsOf 3)) = some y4 at w4
    change DataW.trod enc Try.prog w base spare held m 9 ((List.drop 5 [a1, a2, a3, a4, a5, a6]).take (Try.prog.cellsOf 9)) = some y5 at w5
    rw [c1] at w0 w1 w2 w3 w4
    rw [c2] at w5
    obtain ⟨f0, v0, _, _⟩ := DataW.trod_int Try.underlying3 w0
    obtain ⟨f1, v1, _, _⟩ := DataW.trod_int Try.underlying3 w1
    obtain ⟨f2, v2, _, _⟩ := DataW.trod_int Try.underlying3 w2
    obtain ⟨f3, v3, _, _⟩ := DataW.trod_int Try.underlying3 w3
    obtain ⟨f4, v4, _, _⟩ := DataW.trod_int Try.underlying3 w4
    obtain ⟨f5, v5, _, _⟩ := DataW.trod_string Try.underlying9 w5
    simp at u0 v0 v1 v2 v3 v4 v5
    subst u0 v0 v1 v2 v3 v4 v5
    exact ⟨⟨k, ⟨f0, f1, f2, f3, f4, f5⟩⟩, rfl⟩
set_option maxRecDepth 100000 in
theorem open_helds {r : Reach} {b0 : Nat} {v : Value} {d : DataW H} {ps : List MemPlace} (hv : Value.okWide Try.prog w r b0 44 v) (h : DataW.Trod enc Try.prog w base spare held 44 v d ps) : ∃ l, HeldsAt w v l :=
  open_rows Hd.cells 7 hd_length (by omega) Try.underlying44 (by kernel_rfl) held_one hv h
set_option maxRecDepth 100000 in
theorem want_one (fuel : Nat) (cs : List Value) (x : DataW H × List MemPlace) (h : DataW.trod enc Try.prog w base spare held fuel 36 cs = some x) : ∃ a, cs = Wt.cells a := by
  obtain ⟨xs, n, _, _, hlen, hxl, hfield⟩ := DataW.trod_struct Try.underlying36 h
  rw [show Try.prog.cellsOf 36 = 7 by kernel_rfl] at hlen
  match cs, hlen with
  | [a0, a1, a2, a3, a4, a5, a6], _ =>
    have hx : ∀ j, j < 2 → ∃ y, xs[j]? = some y := fun j hj => ⟨_, List.getElem?_eq_getElem (by rw [hxl]; exact hj)⟩
    have c1 : Try.prog.cellsOf 3 = 1 := by kernel_rfl
    have c2 : Try.prog.cellsOf 9 = 1 := by kernel_rfl
    have c6 : Try.prog.cellsOf 23 = 6 := by kernel_rfl
    obtain ⟨y0, e0⟩ := hx 0 (by omega)
    obtain ⟨y1, e1⟩ := hx 1 (by omega)
    have z0 := (hfield 0 _ rfl).trans e0
    have z1 := (hfield 1 _ rfl).trans e1
    change DataW.trod enc Try.prog w base spare held n 3 ((List.drop 0 [a0, a1, a2, a3, a4, a5, a6]).take (Try.prog.cellsOf 3)) = some y0 at z0
    change DataW.trod enc Try.prog w base spare held n 23 ((List.drop 1 [a0, a1, a2, a3, a4, a5, a6]).take (Try.prog.cellsOf 23)) = some y1 at z1
    rw [c1] at z0
    rw [c6] at z1
    obtain ⟨k, u0, _, _⟩ := DataW.trod_int Try.underlying3 z0
    obtain ⟨ys, m, _, _, _, hyl, hff⟩ := DataW.trod_struct Try.underlying23 z1
    have hy : ∀ j, j < 6 → ∃ y, ys[j]? = some y := fun j hj => ⟨_, List.getElem?_eq_getElem (by rw [hyl]; exact hj)⟩
    obtain ⟨y0, e0⟩ := hy 0 (by omega)
    obtain ⟨y1, e1⟩ := hy 1 (by omega)
    obtain ⟨y2, e2⟩ := hy 2 (by omega)
    obtain ⟨y3, e3⟩ := hy 3 (by omega)
    obtain ⟨y4, e4⟩ := hy 4 (by omega)
    obtain ⟨y5, e5⟩ := hy 5 (by omega)
    have w0 := (hff 0 _ rfl).trans e0
    have w1 := (hff 1 _ rfl).trans e1
    have w2 := (hff 2 _ rfl).trans e2
    have w3 := (hff 3 _ rfl).trans e3
    have w4 := (hff 4 _ rfl).trans e4
    have w5 := (hff 5 _ rfl).trans e5
    change DataW.trod enc Try.prog w base spare held m 3 ((List.drop 0 [a1, a2, a3, a4, a5, a6]).take (Try.prog.cellsOf 3)) = some y0 at w0
    change DataW.trod enc Try.prog w base spare held m 3 ((List.drop 1 [a1, a2, a3, a4, a5, a6]).take (Try.prog.cellsOf 3)) = some y1 at w1
    change DataW.trod enc Try.prog w base spare held m 3 ((List.drop 2 [a1, a2, a3, a4, a5, a6]).take (Try.prog.cellsOf 3)) = some y2 at w2
    change DataW.trod enc Try.prog w base spare held m 3 ((List.drop 3 [a1, a2, a3, a4, a5, a6]).take (Try.prog.cellsOf 3)) = some y3 at w3
    change DataW.trod enc Try.prog w base spare held m 3 ((List.drop 4 [a1, a2, a3, a4, a5, a6]).take (Try.prog.cellsOf 3)) = some y4 at w4
    change DataW.trod enc Try.prog w base spare held m 9 ((List.drop 5 [a1, a2, a3, a4, a5, a6]).take (Try.prog.cellsOf 9)) = some y5 at w5
    rw [c1] at w0 w1 w2 w3 w4
    rw [c2] at w5
    obtain ⟨f0, v0, _, _⟩ := DataW.trod_int Try.underlying3 w0
    obtain ⟨f1, v1, _, _⟩ := DataW.trod_int Try.underlying3 w1
    obtain ⟨f2, v2, _, _⟩ := DataW.trod_int Try.underlying3 w2
    obtain ⟨f3, v3, _, _⟩ := DataW.trod_int Try.underlying3 w3
    obtain ⟨f4, v4, _, _⟩ := DataW.trod_int Try.underlying3 w4
    obtain ⟨f5, v5, _, _⟩ := DataW.trod_string Try.underlying9 w5
    simp at u0 v0 v1 v2 v3 v4 v5
    subst u0 v0 v1 v2 v3 v4 v5
    exact ⟨⟨k, ⟨f0, f1, f2, f3, f4, f5⟩⟩, rfl⟩
set_option maxRecDepth 100000 in
theorem open_wants {r : Reach} {b0 : Nat} {v : Value} {d : DataW H} {ps : List MemPlace} (hv : Value.okWide Try.prog w r b0 82 v) (h : DataW.Trod enc Try.prog w base spare held 82 v d ps) : ∃ l, WantsAt w v l :=
  open_rows Wt.cells 7 wt_length (by omega) Try.underlying82 (by kernel_rfl) want_one hv h
end
end Go.Proofs.Ytegekmdechcikaa

/- A Want by value; a drive that is offline. -/
namespace Go.Proofs.Ytegekmdechcikaa
open Go Go.RowKit Go.Sort Go.ChangeShapes Go.WideShapes Go.Deep
section
variable {H : Type} {enc : TypeId × Value → H} {w : World} {base : Nat} {spare : Nat → Bool} {held : Bool}
set_option maxRecDepth 100000 in
theorem open_want {r : Reach} {b0 : Nat} {v : Value} {d : DataW H} {ps : List MemPlace} (hv : Value.okWide Try.prog w r b0 36 v) (h : DataW.Trod enc Try.prog w base spare held 36 v d ps) : ∃ x : Wt, v = x.val := by
  obtain ⟨⟨cells⟩, rfl, hsize⟩ := okWide_struct Try.underlying36 hv
  obtain ⟨k, hk⟩ := h
  obtain ⟨x, rfl⟩ := want_one k cells _ hk
  exact ⟨x, rfl⟩
end
theorem no_ops (w : World) : OpsAt w (.slice none 0 0) [] := ⟨rfl, by unfold maxLen; simp, none, 0, rfl, fun h => by simp at h⟩
theorem Fine.up {S : Dv} {n m : Nat} {t : Int} (h : Fine S n m 0) (ht : 0 ≤ t) : Fine S n m t := ⟨h.ok, h.claim, h.real, h.on, h.pend, by have := h.term; omega⟩
theorem Ref.sectors {w : World} {o : Own} {a : Nat} {S : Dv} (h : Ref w o a S) : ∃ b c, w.cell? ⟨a, 1, none⟩ = some (.slice (some ⟨b, 0, none⟩) S.secs.length c) := by
  obtain ⟨R, ⟨p, b, c, pv, h⟩, hr⟩ := h
  refine ⟨b, c, ?_⟩
  have := h.cells.2.1
  rwa [hr.len] at this
theorem read_off {S : Dv} (h : S.online = false) (s : Int) : S.read s = (⟨#[]⟩, 105) := by unfold Dv.read; rw [if_pos h]
theorem inv_off {S : Dv} (h : S.online = false) : invOf S = [] := by unfold invOf; rw [if_neg (by rw [h]; simp)]
theorem state_off {S : Dv} (h : S.online = false) (q : Wt) : stateOf S q = 9 := by
  unfold stateOf
  rw [read_off h, if_pos rfl]
end Go.Proofs.Ytegekmdechcikaa

/- Capacity of the nil drive. -/
namespace Go.Proofs.Ytegekmdechcikaa
open Go Go.RowKit Go.Sort
section
variable (w : World)
theorem nil_status : Calls Try.prog 29 #[.pointer none] w fun e w' => e = .returned (.agg #[.bool false, .bool true, .int .i64 0]) ∧ Below w.heap.size w w' := by
  go_enter Try.func29, Try.ntmps29
  go_upto_region 1 with fail
  have hb1 : Below w.heap.size w (w.alloc (.cells #[.bool false, .bool false, .int .i64 0] 70)) := (Below.refl _ _).alloc (Nat.le_refl _) _
  have hg1 : (w.alloc (.cells #[.bool false, .bool false, .int .i64 0] 70)).heap[w.heap.size]? = some (.cells #[.bool false, .bool false, .int .i64 0] 70 (0, 0)) := heap_alloc_new w _
  generalize w.alloc (.cells #[.bool false, .bool false, .int .i64 0] 70) = w1 at *
  go_wp2_with (refine wpList_store_row rfl 70 (.tmp 2) (.tmp 5) rfl w.heap.size #[.bool false, .bool true, .int .i64 0] rfl rfl 70 _ hg1 status_size rfl (status_one _ _ _) ?_)
  have hbb : Below w.heap.size w (w1.setRow w.heap.size #[.bool false, .bool true, .int .i64 0]) := below_setRow hb1 (Nat.le_refl _) _
  have hgg : (w1.setRow w.heap.size #[.bool false, .bool true, .int .i64 0]).heap[w.heap.size]? = some (.cells #[.bool false, .bool true, .int .i64 0] 70 (0, 0)) := setRow_heap w1 _ _ _ _ _ hg1
  generalize w1.setRow w.heap.size #[.bool false, .bool true, .int .i64 0] = w2 at hbb hgg ⊢
  go_wp2
  refine bodyPost_ret (results_cell_row Try.results29 _ _ w.heap.size _ _ _ _ rfl hgg Try.underlying70 rfl status_size) rfl ⟨rfl, hbb⟩
theorem nil_capacity (t : Int) : Calls Try.prog 26 #[.pointer none, .int .i64 t] w fun e w' => e = .returned (.tuple #[.int .i64 0, .int .i64 105]) ∧ Below w.heap.size w w' := by
  have hfld := fun W => field_on false true 0 W
  go_enter Try.func26, Try.ntmps26
  go_wp2_with fail
  refine (nil_status w).mono ?_
  rintro e w1 ⟨rfl, hb1⟩
  go_wp2
  go_ret2
  exact ⟨rfl, hb1⟩
end
end Go.Proofs.Ytegekmdechcikaa
