/- ScrubAgrees. -/
import Derived.Test.YtegekmdechcikaaS16
namespace Go.Proofs.Ytegekmdechcikaa
open Go Go.RowKit Go.Sort

def invRest (S : Dv) (s m : Nat) : List Hd := (List.range m).flatMap fun (j : Nat) => held1 S ((s + j : Nat) : Int)
theorem invRest_cons (S : Dv) (s m : Nat) : invRest S s (m + 1) = held1 S (s : Int) ++ invRest S (s + 1) m := by
  unfold invRest
  rw [List.range_succ_eq_map, List.flatMap_cons, List.flatMap_map]
  congr 1
  congr 1
  funext j
  rw [show s + Nat.succ j = s + 1 + j by omega]
theorem inv_split (S : Dv) (s : Nat) : ∀ m, inv S (s + m) = inv S s ++ invRest S s m
  | 0 => by simp [invRest]
  | m + 1 => by
    rw [← Nat.add_assoc, inv_succ, inv_split S s m, List.append_assoc]
    congr 1
    unfold invRest
    rw [List.range_succ, List.flatMap_append]
    simp
theorem held1_slot {S : Dv} {s : Int} {x : Hd} (h : x ∈ held1 S s) : x.slot = s := by
  unfold held1 at h
  split at h
  · simp at h; rw [h]
  · simp at h
theorem invRest_slot {S : Dv} {s m : Nat} {x : Hd} (h : x ∈ invRest S s m) : (s : Int) ≤ x.slot := by
  unfold invRest at h
  rw [List.mem_flatMap] at h
  obtain ⟨j, _, hj⟩ := h
  rw [held1_slot hj]
  omega
theorem inv_at (S : Dv) (s n : Nat) (h : s < n) : inv S n = inv S s ++ (held1 S (s : Int) ++ invRest S (s + 1) (n - s - 1)) := by
  have := inv_split S s (n - s)
  rw [show s + (n - s) = n by omega] at this
  rw [this, show n - s = (n - s - 1) + 1 by omega, invRest_cons]
  simp
/-- The slot is held: the next piece of the list is its piece. -/
theorem agree_yes {S : Dv} {s n : Nat} (h : s < n) (hc : (S.read s).2 = 0 ∧ errOf (S.read s).1.data.toList = 0) :
    (inv S n)[(inv S s).length]? = some ⟨s, pieceOf (S.read s).1.data.toList⟩ ∧ (inv S (s + 1)).length = (inv S s).length + 1 := by
  have h1 : held1 S (s : Int) = [⟨s, pieceOf (S.read s).1.data.toList⟩] := by unfold held1; rw [if_pos hc]
  refine ⟨?_, ?_⟩
  · rw [inv_at S s n h, h1, List.getElem?_append_right (Nat.le_refl _), Nat.sub_self]
    rfl
  · rw [inv_succ, h1]; simp
theorem agree_no {S : Dv} {s n : Nat} (h : s < n) (hc : ¬ ((S.read s).2 = 0 ∧ errOf (S.read s).1.data.toList = 0)) :
    (∀ y, (inv S n)[(inv S s).length]? = some y → y.slot ≠ s) ∧ (inv S (s + 1)).length = (inv S s).length := by
  have h1 : held1 S (s : Int) = [] := by unfold held1; rw [if_neg hc]
  refine ⟨fun y hy => ?_, ?_⟩
  · rw [inv_at S s n h, h1, List.nil_append, List.getElem?_append_right (Nat.le_refl _)] at hy
    have := invRest_slot (List.mem_of_getElem? hy)
    omega
  · rw [inv_succ, h1]; simp
theorem found_self (p : Pc) : found p p = 1 := by simp [found]
theorem agree_state {S : Dv} {s : Int} (hc : (S.read s).2 = 0 ∧ errOf (S.read s).1.data.toList = 0) : stateOf S ⟨s, pieceOf (S.read s).1.data.toList⟩ = 1 := by
  unfold stateOf seen
  dsimp only
  rw [hc.1, hc.2, if_neg (by decide), if_neg (by decide), if_neg (by decide), if_neg (by decide), if_neg (by decide)]
  exact found_self _
theorem agree_other {S : Dv} {s : Int} (ho : S.online = true) (hs : S.slot s = true) (hc : ¬ ((S.read s).2 = 0 ∧ errOf (S.read s).1.data.toList = 0)) (p : Pc) : stateOf S ⟨s, p⟩ = 2 ∨ stateOf S ⟨s, p⟩ = 3 ∨ stateOf S ⟨s, p⟩ = 8 := by
  have hr : (S.read s).2 = 107 ∨ (S.read s).2 = 0 := by
    unfold Dv.read
    rw [if_neg (by rw [ho]; simp), if_neg (by rw [hs]; simp)]
    split
    · exact .inl rfl
    · exact .inr rfl
  unfold stateOf seen
  dsimp only
  rcases hr with hr | hr
  · rw [hr, if_neg (by decide), if_neg (by decide), if_pos (by decide)]
    exact .inr (.inr rfl)
  · have he : errOf (S.read s).1.data.toList ≠ 0 := fun e => hc ⟨hr, e⟩
    rw [hr, if_neg (by decide), if_neg (by decide), if_neg (by decide)]
    by_cases h2 : errOf (S.read s).1.data.toList = 102
    · rw [if_pos h2]; exact .inl rfl
    · rw [if_neg h2, if_pos he]; exact .inr (.inl rfl)
theorem OwnSl.arg {w : World} {o : Own} {size n : Nat} {v : Value} {xs : List Value} (h : OwnSl w o size v n xs) (hm : n ≤ maxLen) : ArgSl w size v n xs := by
  refine ⟨h.1, hm, ?_⟩
  obtain ⟨A, cap, rfl, _⟩ := h.form
  refine ⟨A, cap, rfl, fun h0 => ?_⟩
  obtain ⟨g, off, cap, e, _, hg, _, _, hc, _⟩ := h.some_ h0
  injection e with e1 _ _
  exact ⟨g, off, e1, hg, hc⟩
theorem ints_one {w : World} {o : Own} {v : Value} {x : Int} (h : Ints w o v [x]) : ∃ g off c, v = .slice (some ⟨g, off, none⟩) 1 c ∧ w.cell? ⟨g, off, none⟩ = some (.int .i64 x) := by
  obtain ⟨g, off, c, rfl, _, _, _, _, hc, _⟩ := OwnSl.some_ h (by simp)
  exact ⟨g, off, c, rfl, hc 0 _ rfl⟩
/-- A Want of its own block takes another piece. -/
theorem WantBox.put {w : World} {b : Nat} {s : Int} {p q : Pc} (h : ValsAt w b (Wt.cells ⟨s, p⟩)) : w.there b 1 6 ∧ ValsAt (w.setCells b 1 q.cells) b (Wt.cells ⟨s, q⟩) := by
  refine ⟨fun j hj => ⟨?_, ?_⟩, ?_⟩
  · rw [h.cell (1 + j) (show 1 + j < 7 by omega)]; rfl
  · exact h.free (1 + j) (show 1 + j < 7 by omega)
  · exact (((((h.store 1 (.int .i64 q.vol) (by simp)).store 2 (.int .i64 q.frag) (by simp)).store 3 (.int .i64 q.stripe) (by simp)).store 4 (.int .i64 q.gen) (by simp)).store 5 (.int .i64 q.ver) (by simp)).store 6 (.string q.data) (by simp)
theorem WantBox.cells {w : World} {b : Nat} {x : Wt} (h : ValsAt w b x.cells) : w.cell? ⟨b, 0, none⟩ = some (.int .i64 x.slot) ∧ w.cell? ⟨b, 1, none⟩ = some (.int .i64 x.pc.vol) ∧ w.cell? ⟨b, 2, none⟩ = some (.int .i64 x.pc.frag) ∧ w.cell? ⟨b, 3, none⟩ = some (.int .i64 x.pc.stripe) ∧ w.cell? ⟨b, 4, none⟩ = some (.int .i64 x.pc.gen) ∧ w.cell? ⟨b, 5, none⟩ = some (.int .i64 x.pc.ver) ∧ w.cell? ⟨b, 6, none⟩ = some (.string x.pc.data) :=
  ⟨h.cell 0 (by simp), h.cell 1 (by simp), h.cell 2 (by simp), h.cell 3 (by simp), h.cell 4 (by simp), h.cell 5 (by simp), h.cell 6 (by simp)⟩
/-- A Want of a slot and no piece. -/
abbrev z7 (s : Int) : Wt := ⟨s, ⟨0, 0, 0, 0, 0, ⟨#[]⟩⟩⟩
theorem pc_all (q : Pc) : (q.cells.toArray).all (·.oneCell') = true := by simp [Value.oneCell']
set_option maxRecDepth 100000 in
set_option maxHeartbeats 800000 in
theorem law_agrees (c r : Int) (v1 v2 : Value) (l1 : List Hd) (l2 : List Opr) (w : World) (h1 : HeldsAt w v1 l1) (h2 : OpsAt w v2 l2) :
    Calls Try.prog 5 #[.int .i64 c, .int .i64 r, v1, v2] w fun e w' => e = .returned (.bool true) ∧ Below w.heap.size w w' := by
  have HL1 := hid h1
  have HL2 := hid h2
  clear h1 h2
  go_enter Try.func5, Try.ntmps5
  go_wp2_with fail
  refine (light27_any HL1.out HL2.out).mono ?_
  rintro e w1 ⟨lr, rfl, hlr, rfl⟩
  cases lr
  case false =>
    go_wp2_with (go_at_call 17; refine (awake27 _).mono ?_; rintro e w2 ⟨rfl, hb2⟩)
    go_ret
    exact ⟨rfl, hb2⟩
  case true =>
    obtain ⟨h60, hsm, hn60⟩ := hlr rfl
    have HSM := hid hsm
    clear hlr hsm
    go_wp2_with fail
    refine (prepared_any c r (clean := False) HL1.out HL2.out HSM.out h60 hn60 (fun h => h.elim)).mono ?_
    rintro e w1 ⟨a, b, o1, o2, S, rfl, hbo, hok, _, hab, hb1, _⟩
    have hb2 : Below w1.heap.size w1 (w1.alloc (.cells #[.pointer (some ⟨a, 0, none⟩), .pointer (some ⟨b, 0, none⟩)] 54)) := (Below.refl _ _).alloc (Nat.le_refl _) _
    have HBX := hid (show PairBox (w1.alloc (.cells #[.pointer (some ⟨a, 0, none⟩), .pointer (some ⟨b, 0, none⟩)] 54)) w1.heap.size a b from heap_alloc_new w1 _)
    have HD := hid (hbo.drv.below hb2)
    have hw2 := hb1.trans (hb2.mono hb1.size)
    have OK := hid hok
    clear hb1 hb2 hbo hab hok HL1 HL2 HSM h60 hn60
    go_upto_region 4 with fail
    generalize w1.alloc (.cells #[.pointer (some ⟨a, 0, none⟩), .pointer (some ⟨b, 0, none⟩)] 54) = w2 at *
    generalize w1.heap.size = q at *
    have z0 := HBX.out.cells.1
    go_wp2_with fail
    refine (inventory_any HD.out OK.out).mono ?_
    rintro e w3 ⟨v3, rfl, hv3, hb3⟩
    have HD3 := hid (HD.out.below hb3)
    have HBX3 := hid (HBX.out.below hb3)
    have hw3 := hw2.trans (hb3.mono hw2.size)
    clear hb3 HD HBX hw2 z0
    cases ho : S.online
    case false =>
      rw [inv_off ho] at hv3
      obtain ⟨A3, c3, rfl, _⟩ := OwnSl.form hv3
      clear hv3
      rw [if_neg (by simp)]
      go_wp2_with (go_at_call 17; refine (awake27 _).mono ?_; rintro e w4 ⟨rfl, hb4⟩)
      go_ret
      exact ⟨rfl, hw3.trans (hb4.mono hw3.size)⟩
    case true =>
      have hc0 := OK.out.one
      have hc1 := OK.out.le
      have hc2 := OK.out.top
      obtain ⟨n, hn⟩ := Int.eq_ofNat_of_zero_le (show 0 ≤ S.claim by omega)
      have hn1 : n ≤ 128 := by omega
      have HN := hid hn
      have HO := hid ho
      have hinv : invOf S = inv S n := by unfold invOf; rw [if_pos ho, show S.claim.toNat = n by omega]
      rw [hinv] at hv3
      have hil := inv_length S n
      obtain ⟨-, -, A3, c3, rfl, hcc⟩ := (show HeldsAt w3 v3 (inv S n) from OwnSl.arg hv3 (by unfold maxLen; omega))
      have HC := hid hcc
      have HIL := hid hil
      rw [if_pos rfl]
      clear hc0 hc1 hc2 hn ho hinv hv3 hcc
      go_wp2_with fail
      go_loopw [13, 14] (fun v i wr => ∃ (s : Nat), s ≤ n ∧ v = .int .i64 ((inv S s).length : Nat) ∧ i = .int .i64 s ∧ Hid (Below w3.heap.size w3 wr)) (fun _ i _ => (n - intOf i).toNat)
      case atStart => exact ⟨0, Nat.zero_le _, rfl, rfl, Below.refl _ _⟩
      case round =>
        obtain ⟨s, hs, rfl, rfl, HB⟩ := hrel
        have HD4 := hid (HD3.out.below HB.out)
        have HBX4 := hid (HBX3.out.below HB.out)
        have z0 := HBX4.out.cells.1
        go_wp2_with fail
        refine (claim_e HD4.out).mono ?_
        rintro e w4 ⟨rfl, rfl⟩
        rw [HN.out]
        by_cases hlt : s < n
        · have hb5 : Below wr.heap.size wr (wr.alloc (.cells #[.int .i64 (s : Int), .int .i64 0, .int .i64 0, .int .i64 0, .int .i64 0, .int .i64 0, .string ⟨#[]⟩] 36)) := (Below.refl _ _).alloc (Nat.le_refl _) _
          have HWB := hid (show ValsAt (wr.alloc (.cells #[.int .i64 (s : Int), .int .i64 0, .int .i64 0, .int .i64 0, .int .i64 0, .int .i64 0, .string ⟨#[]⟩] 36)) wr.heap.size (Wt.cells (z7 s)) from vals_new wr _ _)
          have HD5 := hid (HD4.out.below hb5)
          have HBX5 := hid (HBX4.out.below hb5)
          have HB5 := hid (HB.out.trans (hb5.mono HB.out.size))
          have HWL := hid HB.out.size
          clear hb5 HD4 HBX4 HB z0
          go_upto_region 14 with fail
          generalize wr.alloc (.cells #[.int .i64 (s : Int), .int .i64 0, .int .i64 0, .int .i64 0, .int .i64 0, .int .i64 0, .string ⟨#[]⟩] 36) = w5 at *
          generalize wr.heap.size = wb at *
          by_cases hc : (S.read (s : Int)).2 = 0 ∧ errOf (S.read (s : Int)).1.data.toList = 0
          · obtain ⟨hget, hlen⟩ := agree_yes hlt hc
            have hst := agree_state hc
            generalize pieceOf (S.read (s : Int)).1.data.toList = p at *
            obtain ⟨hkl, hx⟩ := List.getElem?_eq_some_iff.1 hget
            have HLEN := hid hlen
            have HST := hid hst
            obtain ⟨g, off, rfl, hgl, hcell⟩ := HC.out (by omega)
            have hc2 : ∀ j u, ((inv S n).flatMap Hd.cells)[j]? = some u → w5.cell? ⟨g, off + j, none⟩ = some u := fun j u e => (HB5.out.cell (p := ⟨g, off + j, none⟩) hgl).trans (hcell j u e)
            have hda := hd_at hc2 _ hkl
            rw [hx] at hda
            obtain ⟨y0, y1, y2, y3, y4, y5, y6⟩ := hda
            dsimp only at y0 y1 y2 y3 y4 y5 y6
            have hx0 : (0 : Int) ≤ ((inv S s).length : Int) := by omega
            have hx1 : ((inv S s).length : Int) < ((inv S n).length : Int) := by omega
            clear hget hx hst hlen hc2 hcell hc
            generalize (inv S s).length = k at *
            obtain ⟨hth, hvb⟩ := WantBox.put (q := p) HWB.out
            have hfw : Fr (fun k => k = wb) w5 (w5.setCells wb 1 p.cells) := Fr.setCells (o := fun k => k = wb) (.inl rfl) _ _ _ (Fr.refl _ _)
            have HB6 := hid (below_of_fr HB5.out hfw (fun k e => by have := HWL.out; omega) HB5.out.size)
            have HD6 := hid (HD5.out.fr hfw (fun k e1 e2 => by have := HD3.out.under k e1; have := HWL.out; omega))
            have HBX6 := hid (HBX5.out.fr hfw (fun e => by have := HBX3.out.lt; have := HWL.out; omega))
            have HWB6 := hid hvb
            have z0 := HBX5.out.cells.1
            clear hvb hfw
            have hth2 : w5.there wb 1 p.cells.toArray.size := hth
            clear hth
            go_upto_region 16 with (refine wpList_store_mid rfl 23 (.tmp 78) (.tmp 77) rfl wb 1 p.cells.toArray rfl rfl hth2 piece_size (pc_all p) ?_)
            clear HWB HD5 HBX5 HB5 z0 y0 y1 y2 y3 y4 y5 y6 hth2
            generalize w5.setCells wb 1 p.cells = w6 at *
            have z0 := HBX6.out.cells.1
            obtain ⟨b0, b1, b2, b3, b4, b5, b6⟩ := WantBox.cells HWB6.out
            go_wp2_with fail
            have hb7 : Below w6.heap.size w6 (w6.alloc (.cells (Wt.cells ⟨s, p⟩).toArray 36)) := (Below.refl _ _).alloc (Nat.le_refl _) _
            have hwa := wants_new (l := [⟨s, p⟩]) (heap_alloc_new w6 (.cells (Wt.cells ⟨s, p⟩).toArray 36)) (by simp [maxLen]) 1
            refine (classify_all (HD6.out.below hb7) OK.out hwa (by simp)).mono ?_
            rintro e w7 ⟨v7, rfl, hv7, hb8⟩
            have hw7 := (HB6.out.trans (hb7.mono HB6.out.size)).trans (hb8.mono (by have := HB6.out.size; simp; omega))
            have HB7 := hid hw7
            have HD7 := hid ((HD6.out.below hb7).below hb8)
            have HBX7 := hid ((HBX6.out.below hb7).below hb8)
            have HWB7 := hid ((HWB6.out.alloc (.cells (Wt.cells ⟨s, p⟩).toArray 36)).below hb8 (by simp; have := HWB6.out.lt; omega))
            clear hb7 hb8 hwa hw7 HD6 HBX6 HB6 HWB6 z0 b0 b1 b2 b3 b4 b5 b6
            rw [show List.map (stateOf S) [⟨s, p⟩] = [1] by rw [List.map_cons, HST.out]; rfl] at hv7
            obtain ⟨g7, off7, c7, rfl, y0⟩ := ints_one hv7
            clear hv7
            have z0 := HBX7.out.cells.1
            obtain ⟨b0, b1, b2, b3, b4, b5, b6⟩ := WantBox.cells HWB7.out
            go_wp2_with fail
            refine (good_any HD7.out OK.out ⟨s, p⟩).mono ?_
            rintro e w8 ⟨rfl, hb8⟩
            rw [HST.out, show isGood 1 = true from rfl]
            have HB8 := hid (HB7.out.trans (hb8.mono HB7.out.size))
            clear hb8 HD7 HBX7 HB7 HWB7 z0 b0 b1 b2 b3 b4 b5 b6
            go_wp2
            go_roundw
            case rel => exact ⟨s + 1, by omega, by rw [HLEN.out]; go_num, by go_num, HB8⟩
            case measure => (simp [intOf]; try omega)
          · obtain ⟨hno, hlen⟩ := agree_no hlt hc
            have hsl : S.slot (s : Int) = true := by unfold Dv.slot; rw [HN.out]; simp; omega
            have HST := hid (agree_other HO.out hsl hc (z7 s).pc)
            have HLEN := hid hlen
            clear hlen hsl hc
            by_cases hkl : (inv S s).length < (inv S n).length
            · obtain ⟨g, off, rfl, hgl, hcell⟩ := HC.out (by omega)
              have hc2 : ∀ j u, ((inv S n).flatMap Hd.cells)[j]? = some u → w5.cell? ⟨g, off + j, none⟩ = some u := fun j u e => (HB5.out.cell (p := ⟨g, off + j, none⟩) hgl).trans (hcell j u e)
              have y0 := (hd_at hc2 _ hkl).1
              have hne := beq_f (hno _ (List.getElem?_eq_getElem hkl))
              have hx0 : (0 : Int) ≤ ((inv S s).length : Int) := by omega
              have hx1 : ((inv S s).length : Int) < ((inv S n).length : Int) := by omega
              clear hc2 hcell hno
              generalize (inv S n)[(inv S s).length].slot = ss at *
              generalize (inv S s).length = k at *
              have HD6 := HD5
              have HBX6 := HBX5
              have HB6 := HB5
              have HWB6 := HWB
              clear HD5 HBX5 HB5 HWB
              rename World => w6
              have z0 := HBX6.out.cells.1
              obtain ⟨b0, b1, b2, b3, b4, b5, b6⟩ := WantBox.cells HWB6.out
              go_wp2_with fail
              have hb7 : Below w6.heap.size w6 (w6.alloc (.cells #[.int .i64 (s : Int), .int .i64 0, .int .i64 0, .int .i64 0, .int .i64 0, .int .i64 0, .string ⟨#[]⟩] 36)) := (Below.refl _ _).alloc (Nat.le_refl _) _
              have hwa := wants_new (l := [z7 s]) (heap_alloc_new w6 (.cells #[.int .i64 (s : Int), .int .i64 0, .int .i64 0, .int .i64 0, .int .i64 0, .int .i64 0, .string ⟨#[]⟩] 36)) (by simp [maxLen]) 1
              refine (classify_all (HD6.out.below hb7) OK.out hwa (by simp)).mono ?_
              rintro e w7 ⟨v7, rfl, hv7, hb8⟩
              have hw7 := (HB6.out.trans (hb7.mono HB6.out.size)).trans (hb8.mono (by have := HB6.out.size; simp; omega))
              have HB7 := hid hw7
              clear hb7 hb8 hwa hw7 HD6 HBX6 HB6 HWB6 z0 b0 b1 b2 b3 b4 b5 b6
              rw [show List.map (stateOf S) [z7 s] = [stateOf S (z7 s)] from rfl] at hv7
              obtain ⟨g7, off7, c7, rfl, y0⟩ := ints_one hv7
              have hst := HST.out
              clear hv7
              generalize stateOf S (z7 s) = st at *
              rcases hst with rfl | rfl | rfl
              · go_wp2
                go_roundw
                case rel => exact ⟨s + 1, by omega, by rw [HLEN.out], by go_num, HB7⟩
                case measure => (simp [intOf]; try omega)
              · go_wp2
                go_roundw
                case rel => exact ⟨s + 1, by omega, by rw [HLEN.out], by go_num, HB7⟩
                case measure => (simp [intOf]; try omega)
              · go_wp2
                go_roundw
                case rel => exact ⟨s + 1, by omega, by rw [HLEN.out], by go_num, HB7⟩
                case measure => (simp [intOf]; try omega)
            · have hx1 : ¬ ((inv S s).length : Int) < ((inv S n).length : Int) := by omega
              clear hno
              generalize (inv S s).length = k at *
              have HD6 := HD5
              have HBX6 := HBX5
              have HB6 := HB5
              have HWB6 := HWB
              clear HD5 HBX5 HB5 HWB
              rename World => w6
              have z0 := HBX6.out.cells.1
              obtain ⟨b0, b1, b2, b3, b4, b5, b6⟩ := WantBox.cells HWB6.out
              go_wp2_with fail
              have hb7 : Below w6.heap.size w6 (w6.alloc (.cells #[.int .i64 (s : Int), .int .i64 0, .int .i64 0, .int .i64 0, .int .i64 0, .int .i64 0, .string ⟨#[]⟩] 36)) := (Below.refl _ _).alloc (Nat.le_refl _) _
              have hwa := wants_new (l := [z7 s]) (heap_alloc_new w6 (.cells #[.int .i64 (s : Int), .int .i64 0, .int .i64 0, .int .i64 0, .int .i64 0, .int .i64 0, .string ⟨#[]⟩] 36)) (by simp [maxLen]) 1
              refine (classify_all (HD6.out.below hb7) OK.out hwa (by simp)).mono ?_
              rintro e w7 ⟨v7, rfl, hv7, hb8⟩
              have hw7 := (HB6.out.trans (hb7.mono HB6.out.size)).trans (hb8.mono (by have := HB6.out.size; simp; omega))
              have HB7 := hid hw7
              clear hb7 hb8 hwa hw7 HD6 HBX6 HB6 HWB6 z0 b0 b1 b2 b3 b4 b5 b6
              rw [show List.map (stateOf S) [z7 s] = [stateOf S (z7 s)] from rfl] at hv7
              obtain ⟨g7, off7, c7, rfl, y0⟩ := ints_one hv7
              have hst := HST.out
              clear hv7
              generalize stateOf S (z7 s) = st at *
              rcases hst with rfl | rfl | rfl
              · go_wp2
                go_roundw
                case rel => exact ⟨s + 1, by omega, by rw [HLEN.out], by go_num, HB7⟩
                case measure => (simp [intOf]; try omega)
              · go_wp2
                go_roundw
                case rel => exact ⟨s + 1, by omega, by rw [HLEN.out], by go_num, HB7⟩
                case measure => (simp [intOf]; try omega)
              · go_wp2
                go_roundw
                case rel => exact ⟨s + 1, by omega, by rw [HLEN.out], by go_num, HB7⟩
                case measure => (simp [intOf]; try omega)
        · obtain rfl : s = n := by omega
          go_wp2_with (go_at_call 17; refine (awake27 _).mono ?_; rintro e w5 ⟨rfl, hb5⟩)
          go_ret
          exact ⟨by simp, hw3.trans ((HB.out.trans (hb5.mono HB.out.size)).mono hw3.size)⟩
end Go.Proofs.Ytegekmdechcikaa
