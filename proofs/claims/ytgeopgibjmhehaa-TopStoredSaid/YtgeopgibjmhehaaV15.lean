/- TopStored: the walk. -/
import Derived.Test.YtgeopgibjmhehaaTR
import Derived.Lib.AtoiErrMem
namespace Go.Proofs.Ytgeopgibjmhehaa
open Go Go.RowKit Go.Sort Go.ChangeShapes Go.WideShapes Go.Deep

/-- Whether Inventory finds something. -/
def sn (S : Dv) : Bool := (invOf S).length != 0
theorem seen_enough {k m : Nat} {S2 : Nat → Dv} {T : List Nat} {R : Nat → List B8} (hT : T.length ≤ m) (hR : ∀ j, j < k + m → (R j).length = 16) (hk : k + m ≤ 8) (hF : ∀ i, i < k + m → i ∉ T → S2 i = firstDv (i % 4) (pcOf i (R i))) : k ≤ ((List.range (k + m)).filter fun i => sn (S2 i)).length := by
  have := count_seen (k + m) (fun i => sn (S2 i)) T (fun i hi hn => by
    show sn (S2 i) = true
    unfold sn
    rw [hF i hi hn, first_inv _ (Nat.mod_lt _ (by omega)) _ (pcOf_ok i _ (by omega) (hR i hi))]
    rfl)
  omega
theorem seen_succ (p : Nat) (S2 : Nat → Dv) : (List.range (p + 1)).filter (fun i => sn (S2 i)) = (List.range p).filter (fun i => sn (S2 i)) ++ if sn (S2 p) = true then [p] else [] := by
  rw [List.range_succ, List.filter_append]
  congr 1
  cases h : sn (S2 p) <;> simp [h]
theorem bytes_new (w : World) (e : TypeId) (l : List B8) : ByteAt (Lib.bytesWorld w e (bstr l)) w.heap.size 0 l := by
  refine ⟨by rw [Lib.bytesWorld_size]; omega, fun k hk => ?_⟩
  rw [Nat.zero_add, Lib.bytesWorld_cell w e _ k (by rw [bstr_size]; exact hk)]
  simp [bstr, b8, List.getD, hk]
theorem Try.info_fragment : (Try.prog.info? 50).map (fun i => (i.zero, i.size, i.bytes)) = some (some (.agg #[.int .i64 0, .slice none 0 0]), 2, 32) := by kernel_rfl
theorem Try.info_ptr : (Try.prog.info? 36).map (fun i => (i.zero, i.size, i.bytes)) = some (some (.pointer none), 1, 8) := by kernel_rfl
set_option maxRecDepth 100000 in
set_option maxHeartbeats 8000000 in
theorem law_stored {v vf : Value} {A : Option Addr} {n c : Nat} {l : List B8} {x y : Int} {fl : List Int} {w : World} (hd : BytesIn w v A n c l) (hf : IntsAt w vf fl) :
    Calls Try.prog 3 #[v, .int .i64 x, .int .i64 y, vf] w fun e w' => e = .returned (.bool true) ∧ Below w.heap.size w w' := by
  have HD := hid hd
  obtain rfl := hd.eq
  clear hd
  have htop := HD.out.top
  have hle := HD.out.le
  have HF := hid hf
  obtain ⟨_, hm, B, cap, rfl, hc⟩ := hf
  have HC := hid hc
  clear hc
  unfold maxLen at hm htop
  by_cases h40 : 8 < fl.length
  · go_enter Try.func3, Try.ntmps3
    go_wp2_with (go_at_call 4; refine (runsum_any _).mono ?_; rintro e w2 ⟨rfl, rfl⟩)
    go_ret
    exact ⟨rfl, Below.refl _ _⟩
  · by_cases h100 : 200 < n
    · have h40' : fl.length ≤ 8 := by omega
      go_enter Try.func3, Try.ntmps3
      go_wp2_with (go_at_call 4; refine (runsum_any _).mono ?_; rintro e w2 ⟨rfl, rfl⟩)
      go_ret
      exact ⟨rfl, Below.refl _ _⟩
    · have h40' : fl.length ≤ 8 := by omega
      have h100' : n ≤ 200 := by omega
      go_enter Try.func3, Try.ntmps3
      go_wp2_with fail
      refine (within_any x 4 w (by omega) (by omega)).mono ?_
      rintro e w' ⟨rfl, rfl⟩
      obtain ⟨z, hz⟩ : ∃ z, x % 4 = z := ⟨_, rfl⟩
      have hz0 : 0 ≤ z := by omega
      have hz4 : z < 4 := by omega
      rw [hz]
      clear hz
      obtain ⟨k, hk⟩ : ∃ k : Nat, 1 + z = (k : Int) := ⟨(1 + z).toNat, by omega⟩
      go_wp2_with fail
      have hk1 : 1 ≤ k := by omega
      have hk4 : k ≤ 4 := by omega
      clear hk hz0 hz4
      refine (within_any y 5 w (by omega) (by omega)).mono ?_
      rintro e w' ⟨rfl, rfl⟩
      obtain ⟨m, hm5⟩ : ∃ m : Nat, y % 5 = m := ⟨(y % 5).toNat, by omega⟩
      have hm4 : m ≤ 4 := by omega
      rw [hm5]
      clear hm5
      go_wp2_with fail
      obtain ⟨t, ht⟩ : ∃ t : Nat, (min (n : Int) ((k : Int) * 16)).toNat = t := ⟨_, rfl⟩
      have htn : t ≤ n := by omega
      have htk : t ≤ k * 16 := by omega
      rw [ht]
      have HT := hid ht
      have HBI := hid (HD.out.take t htn)
      clear ht
      refine (split_any HBI.out.sl HBI.out.len (by omega) (by unfold maxLen; omega) hk1 hk4 htk).mono ?_
      rintro e w1 ⟨rfl, hr1, hb1⟩
      have HL := hid (split_length k 16 (l.take t))
      have HN := hid (split_rows k 16 (l.take t))
      have HR1 := hid hr1
      have HB1 := hid hb1
      clear hr1 hb1
      generalize w.heap.size = g0 at HR1
      generalize w.heap.size = g1
      go_wp2_with fail
      refine (encode_any (n := 16) HR1.out HL.out HN.out hk1 hk4 hm4 (by omega) (by omega)).mono ?_
      rintro e w2 ⟨va, rfl, hva, hr2, hb2⟩
      obtain ⟨ba, oa, ca, rfl, hca⟩ := hva
      obtain ⟨D, hD⟩ : ∃ D, split k 16 (l.take t) = D := ⟨_, rfl⟩
      rw [hD] at hr2 HL HN
      have HSD := hid hD
      have HB2 := hid (HB1.out.trans (hb2.mono HB1.out.size))
      have hR16 : ∀ j, j < k + m → (combine (coefs k j) D).length = 16 := fun j _ => combine_length _ _ 16 HN.out (by have := HL.out; rintro rfl; simp at this; omega)
      have HRL := hid hR16
      have HC2 := hid (show ba < w2.heap.size ∧ ∀ j, j < k + m → ∃ b o c, w2.cell? ⟨ba, oa + j, none⟩ = some (.slice (some ⟨b, o, none⟩) 16 c) ∧ ByteAt w2 b o (combine (coefs k j) D) from by
        have h := hr2.box (word_length k m D) (by omega)
        refine ⟨h.1, fun j hj => ?_⟩
        obtain ⟨u, hu, hs⟩ := h.2 j hj
        rw [word_get k m D j hj] at hs
        obtain ⟨b, o, c, rfl, _⟩ := hs.at_ (hR16 j hj) (by omega)
        exact ⟨b, o, c, hu, hs.at1 (hR16 j hj) (by omega)⟩)
      clear hb2 hr2 hD HR1 HB1 hR16
      generalize (fun j => combine (coefs k j) D) = Rx
      go_wp2_with fail
      obtain ⟨i0, hi0, hz0, hz1, hz2⟩ := info_parts Try.info_ptr
      have hw20 := HB2.out.size
      go_loopw [13, 14] (fun v i wr => ∃ (j : Nat) (od : Own) (a : Nat → Nat) (o : Nat → Own) (S : Nat → Dv), j ≤ k + m ∧ i = .int .i64 j ∧ Hid (Drvs w2 wr j od v a o S) ∧ Hid (∀ q, q < j → S q = firstDv (q % 4) (pcOf q (combine (coefs k q) D)))) (fun _ i _ => (k + m - intOf i).toNat)
      case atStart => exact ⟨0, _, fun _ => 0, fun _ => NoOwn, fun _ => newDv 4 4, Nat.zero_le _, rfl, Drvs.start _ _ _ _, fun q hq => by omega⟩
      case round =>
        obtain ⟨j, od, a, o, S, hj, rfl, HDR, HS⟩ := hrel
        by_cases hlt : j < k + m
        · obtain ⟨br, or, cr, hcell, hat⟩ := HC2.out.2 j hlt
          have z0 := (HDR.out.below.cell (p := ⟨ba, oa + j, none⟩) HC2.out.1).trans hcell
          have y0 := (hat.below HDR.out.below).str (HRL.out j hlt) cr
          have HOK := hid (pcOf_ok j (combine (coefs k j) D) (by omega) (HRL.out j hlt))
          have HEQ := hid (show pcOf j (combine (coefs k j) D) = ⟨0, j, 0, 1, 7, bstr (combine (coefs k j) D)⟩ from rfl)
          generalize bstr (combine (coefs k j) D) = X at *
          clear hcell hat
          go_wp2_with fail
          refine (enc_pc (⟨0, (j : Int), 0, 1, 7, X⟩ : Pc) wr (HEQ.out ▸ HOK.out)).mono ?_
          rintro e w3 ⟨rfl, hb3⟩
          rw [← HEQ.out]
          clear HEQ z0 y0
          obtain ⟨PC, hPC⟩ : ∃ PC, pcOf j (combine (coefs k j) D) = PC := ⟨_, rfl⟩
          rw [hPC] at HOK ⊢
          have HPC := hid hPC
          clear hPC
          have HB3 := hid hb3
          clear hb3
          go_wp2_with fail
          refine (new_e 4 4 w3 (by omega) (by omega) (by omega)).mono ?_
          rintro e w4 ⟨a4, rfl, hd4, hb4⟩
          have HB4 := hid (HB3.out.trans (hb4.mono HB3.out.size))
          have HO4 := hid (show ∀ q, Grow NoOwn w3 w4 q → wr.heap.size ≤ q from fun q e => by
            rcases e with e | e
            · exact e.elim
            · have := HB3.out.size; omega)
          have HD4 := hid hd4
          clear hd4 hb4 HB3
          generalize Grow NoOwn w3 w4 = o4 at HO4 HD4
          have hjm : (j : Int) % 4 = ((j % 4 : Nat) : Int) := by omega
          have hw4 := first_write (j % 4) (Nat.mod_lt _ (by omega)) PC HOK.out
          rw [← hjm] at hw4
          have HW4 := hid hw4.1
          clear hjm hw4
          go_wp2_with fail
          refine (write_e HD4.out (newDv_ok 4 4 (by omega) (by omega) (by omega)) 1 _ _).mono ?_
          rintro e w5 ⟨rfl, hd5, hf5⟩
          rw [HW4.out] at hd5 ⊢
          have HD5 := hid (show Drv w5 o4 a4 (firstDv (j % 4) PC) from hd5)
          have HB5 := hid (below_of_fr HB4.out hf5 HO4.out HB4.out.size)
          clear hd5 hf5 HD4 HB4 HW4
          obtain ⟨T, hT⟩ : ∃ T, firstDv (j % 4) PC = T := ⟨_, rfl⟩
          rw [hT] at HD5
          dsimp only
          go_wp2_with (at_builtin; refine wpList_append_sl (by rfl) (.tmp 119) (.tmp 121) 31 (by rfl) 36 i0 _ 1 8 Try.underlying31 hi0 hz0 hz1 hz2 rfl (by decide) od _ (.slice (some ⟨w5.heap.size, 0, none⟩) 1 1) j 1 _ [.pointer (some ⟨a4, 0, none⟩)] (by rfl) (by rfl) ((HDR.out.own.below HB5.out).below ((Below.refl _ _).alloc (Nat.le_refl _) _)) ⟨rfl, .inr ⟨_, 1, rfl, World.news_of_block (cs := #[.pointer (some ⟨a4, 0, none⟩)]) (fr := (0, 0)) (heap_alloc_new w5 _)⟩⟩ (by intro u hu; simp at hu; subst hu; rfl) (by unfold maxLen; omega) (by omega) ?_)
          intro v6 w6 hown6 hgrow
          have HDR6 := hid (HDR.out.add (HB5.out.alloc HB5.out.size _) (HD5.out.below ((Below.refl _ _).alloc (Nat.le_refl _) _)) HO4.out hown6 hgrow)
          have HS6 := hid (show ∀ q, q < j + 1 → upd S j T q = firstDv (q % 4) (pcOf q (combine (coefs k q) D)) from fun q hq => by
            by_cases e : q = j
            · subst e; rw [upd_same, ← hT, HPC.out]
            · rw [upd_ne _ _ e]; exact HS.out q (by omega))
          clear hown6 hgrow HDR HB5 HD5 HO4 hT HPC HS HOK
          go_wp2
          go_roundw
          case rel => exact ⟨j + 1, _, _, _, _, by omega, by go_num, HDR6, HS6⟩
          case measure => (simp [intOf]; try omega)
        · obtain rfl : j = k + m := by omega
          have HT0 := hid (show ∀ q, q < k + m → Tame (S q) (q % 4) (pcOf q (combine (coefs k q) D)) from fun q hq => by
            rw [HS.out q hq]
            exact first_tame _ (Nat.mod_lt _ (by omega)) _ (pcOf_ok q _ (by omega) (HRL.out q hq)))
          go_upto_block 2 with fail
          go_cut [19, 20, 21] from 123 to 171 (fun s19 s20 s21 wx => ∃ (o2 : Nat → Own) (S2 : Nat → Dv) (T : List Nat), Hid (Drvs w2 wx (k + m) od u13 a o2 S2) ∧ Hid (T.length ≤ m) ∧ Hid (∀ i, i < k + m → Tame (S2 i) (i % 4) (pcOf i (combine (coefs k i) D))) ∧ Hid (∀ i, i < k + m → i ∉ T → S2 i = firstDv (i % 4) (pcOf i (combine (coefs k i) D))))
          case first =>
            go_wp2_with fail
            go_loopw [19] (fun i wx => ∃ (q : Nat) (o2 : Nat → Own) (S2 : Nat → Dv) (T : List Nat), q ≤ fl.length ∧ q ≤ m ∧ i = .int .i64 q ∧ Hid (Drvs w2 wx (k + m) od u13 a o2 S2) ∧ Hid (T.length = q) ∧ Hid (∀ i, i < k + m → Tame (S2 i) (i % 4) (pcOf i (combine (coefs k i) D))) ∧ Hid (∀ i, i < k + m → i ∉ T → S2 i = firstDv (i % 4) (pcOf i (combine (coefs k i) D)))) (fun i _ => (m - intOf i).toNat)
            case atStart => exact ⟨0, o, S, [], Nat.zero_le _, Nat.zero_le _, rfl, HDR, rfl, HT0, fun i hi _ => HS.out i hi⟩
            case round =>
              clear HT0 HS HDR
              obtain ⟨q, o2, S2, T, hqf, hqm, rfl, HDR, HTL, HTM, HTF⟩ := hrel
              by_cases hq1 : q < fl.length
              · by_cases hq2 : q < m
                · obtain ⟨bf, off, rfl, hblt, hcf⟩ := HC.out (by omega)
                  have hdn := HB2.out.trans (HDR.out.below.mono hw20)
                  have HZ := hid (fun (W : World) (hW : Below wr.heap.size wr W) => ((hdn.trans (hW.mono hdn.size)).cell (p := ⟨bf, off + q, none⟩) hblt).trans (IntsAt.cell hcf q hq1))
                  generalize fl[q] = y1 at *
                  have z0 := HZ.out wr (Below.refl _ _)
                  have hx0 : (0 : Int) ≤ (q : Int) := by omega
                  have hx1 : (q : Int) < (fl.length : Int) := by omega
                  clear hcf hdn
                  go_wp2_with fail
                  have ekm : (k : Int) + (m : Int) = ((k + m : Nat) : Int) := by omega
                  rw [ekm]
                  refine (within_nat y1 (k + m) wr (by omega) (by omega)).mono ?_
                  rintro e wz ⟨d, hd, rfl, rfl⟩
                  have z1 := HZ.out (wr.alloc (.cells #[.int .i64 1, .int .i64 3, .int .i64 4, .int .i64 7] 3)) ((Below.refl _ _).alloc (Nat.le_refl _) _)
                  clear z0 ekm
                  go_wp2_with fail
                  refine (within_nat _ 4 _ (by omega) (by omega)).mono ?_
                  rintro e wz ⟨r, hr, rfl, rfl⟩
                  obtain ⟨kd, hkd, z2⟩ : ∃ kd : Int, (kd = 1 ∨ kd = 3 ∨ kd = 4 ∨ kd = 7) ∧ (wr.alloc (.cells #[.int .i64 1, .int .i64 3, .int .i64 4, .int .i64 7] 3)).cell? ⟨wr.heap.size, r, none⟩ = some (.int .i64 kd) := by
                    have hg := cell_block (heap_alloc_new wr (.cells #[.int .i64 1, .int .i64 3, .int .i64 4, .int .i64 7] 3)) r
                    have : r = 0 ∨ r = 1 ∨ r = 2 ∨ r = 3 := by omega
                    rcases this with rfl | rfl | rfl | rfl
                    · exact ⟨1, .inl rfl, hg⟩
                    · exact ⟨3, .inr (.inl rfl), hg⟩
                    · exact ⟨4, .inr (.inr (.inl rfl)), hg⟩
                    · exact ⟨7, .inr (.inr (.inr rfl)), hg⟩
                  have HKD := hid hkd
                  have HDRA := hid (HDR.out.then (w' := wr.alloc (.cells #[.int .i64 1, .int .i64 3, .int .i64 4, .int .i64 7] 3)) ((Below.refl _ _).alloc (Nat.le_refl _) _))
                  have HZA := hid (fun (W : World) (hW : Below (wr.alloc (.cells #[.int .i64 1, .int .i64 3, .int .i64 4, .int .i64 7] 3)).heap.size (wr.alloc (.cells #[.int .i64 1, .int .i64 3, .int .i64 4, .int .i64 7] 3)) W) => HZ.out W (((Below.refl _ _).alloc (Nat.le_refl _) _).trans (hW.mono (by simp))))
                  clear hkd HDR HZ
                  go_upto_region 22 with fail
                  generalize wr.alloc (.cells #[.int .i64 1, .int .i64 3, .int .i64 4, .int .i64 7] 3) = wA at *
                  generalize wr.heap.size = wrs at *
                  obtain ⟨bd, offd, cd, rfl, hcd⟩ := HDRA.out.at_ d hd
                  have q0 : ∀ n, (wA.drewN n).cell? ⟨bd, offd + d, none⟩ = some (.pointer (some ⟨a d, 0, none⟩)) := fun _ => hcd
                  have q1 : ∀ n, (wA.drewN n).cell? ⟨bf, off + q, none⟩ = some (.int .i64 y1) := fun _ => z1
                  obtain ⟨ad, had⟩ : ∃ ad, a d = ad := ⟨_, rfl⟩
                  rw [had] at q0
                  have HAD := hid had
                  clear had
                  have hd0 : (0 : Int) ≤ (d : Int) := by omega
                  have hd1 : (d : Int) < (k : Int) + (m : Int) := by omega
                  have hdm : (d : Int) % 4 = ((d % 4 : Nat) : Int) := by omega
                  clear z1 z2 hcd
                  refine wp_region_quiet_tail 20 (fun w' => ∃ n, w' = wA.drewN n) ⟨1, rfl⟩ (by kernel_rfl) (by kernel_rfl) ?_
                  simp only [List.take_succ_cons, List.take_zero, List.drop_succ_cons, List.drop_zero]
                  repeat (go_big_quiet_step ((go_at_call 5; exact quiet_left (within_any _ _ _ (by omega) (by omega)))))
                  obtain ⟨qa, hqa⟩ : ∃ z, 1 + y1 % 4294967295 = z := ⟨_, rfl⟩
                  obtain ⟨qb, hqb⟩ : ∃ z, wrap64 (y1.tdiv 64) % 288 = z := ⟨_, rfl⟩
                  obtain ⟨qc, hqc⟩ : ∃ z, (d : Int) % 4 = z := ⟨_, rfl⟩
                  have HQB := hid (show 0 ≤ qb ∧ qb < 288 by omega)
                  have HQC := hid (show qc = ((d % 4 : Nat) : Int) by rw [← hqc]; exact hdm)
                  rw [hqa, hqb, hqc]
                  clear hqa hqb hqc hdm q0 q1 hd0 hd1 hx0 hx1
                  go_big_quiet_step (fail)
                  refine wpQuiet_nil ?_
                  rintro _ ⟨nq, rfl⟩
                  have HDRB := hid (HDRA.out.then (below_drew wA nq))
                  clear HDRA HZA
                  go_wp2_with fail
                  have hdrv : Drv (wA.drewN nq) (o2 d) ad (S2 d) := HAD.out ▸ HDRB.out.drv d hd
                  refine (inject_e hdrv (HTM.out d hd).ok ⟨kd, qc, qb, qa, 0⟩ (by rw [(HTM.out d hd).pend]; simp)).mono ?_
                  rintro e wB ⟨rfl, hdB, hfB⟩
                  have HDRC := hid (HDRB.out.step d hd (by rw [HAD.out]; exact hdB) hfB)
                  have HTMC := hid (show ∀ i, i < k + m → Tame (upd S2 d ((S2 d).inject ⟨kd, qc, qb, qa, 0⟩).2 i) (i % 4) (pcOf i (combine (coefs k i) D)) from fun i hi => by
                    by_cases e : i = d
                    · subst e
                      rw [upd_same]
                      exact (HTM.out i hi).inject (Nat.mod_lt _ (by omega)) (pcOf_ok i _ (by omega) (HRL.out i hi)) _ HKD.out HQC.out HQB.out.1 HQB.out.2
                    · rw [upd_ne _ _ e]; exact HTM.out i hi)
                  have HTFC := hid (show ∀ i, i < k + m → i ∉ T ++ [d] → upd S2 d ((S2 d).inject ⟨kd, qc, qb, qa, 0⟩).2 i = firstDv (i % 4) (pcOf i (combine (coefs k i) D)) from fun i hi hn => by
                    rw [List.mem_append, not_or] at hn
                    rw [upd_ne _ _ (fun e => hn.2 (by simp [e]))]
                    exact HTF.out i hi hn.1)
                  have HTLC := hid (show (T ++ [d]).length = q + 1 by rw [List.length_append, HTL.out]; rfl)
                  clear hdB hfB hdrv HAD HDRB HTM HTF HTL HKD HQB HQC
                  generalize ((S2 d).inject ⟨kd, qc, qb, qa, 0⟩).1 = re at *
                  generalize ((S2 d).inject ⟨kd, qc, qb, qa, 0⟩).2 = Sx at *
                  go_wp2
                  refine ⟨?_, ?measure⟩
                  iterate 90 (try apply Exists.intro)
                  refine ⟨?rel, rfl⟩
                  case rel => exact ⟨q + 1, _, _, _, by omega, by omega, by go_num, HDRC, HTLC, HTMC, HTFC⟩
                  case measure => (simp [intOf]; try omega)
                · go_wp2_with fail
                  go_meet
                  exact ⟨_, _, T, HDR, hid (by rw [HTL.out]; exact hqm), HTM, HTF⟩
              · go_wp2_with fail
                go_meet
                exact ⟨_, _, T, HDR, hid (by rw [HTL.out]; exact hqm), HTM, HTF⟩
          case rest =>
            obtain ⟨o2, S2, T, HDR, HTL, HTM, HTF⟩ := hcut
            clear HT0 HS
            obtain ⟨bd, offd, cd, rfl, _⟩ := HDR.out.at_ 0 (by omega)
            have hkm : (↑(k + m) : Int) = (k : Int) + (m : Int) := by omega
            go_wp2_with fail
            go_loopw [22, 23] (fun v i wx => ∃ (p : Nat) (oh : Own) (idx : List Nat) (us : List Value), p ≤ k + m ∧ i = .int .i64 p ∧ Hid (Below wc.heap.size wc wx) ∧ Hid (Frs wc wx oh v idx us (fun j => combine (coefs k j) D)) ∧ Hid (idx = (List.range p).filter fun i => sn (S2 i))) (fun _ i _ => (k + m - intOf i).toNat)
            case atStart => exact ⟨0, NoOwn, [], [], Nat.zero_le _, rfl, Below.refl _ _, Frs.start _ _ _, rfl⟩
            case round =>
              obtain ⟨p, oh, idx, us, hp, rfl, HB, HFR, HIX⟩ := hrel
              by_cases hlt : p < k + m
              · have HDX := hid (HDR.out.then HB.out)
                obtain ⟨bd', offd', cd', e, hcd⟩ := HDX.out.at_ p hlt
                injection e with e1 e3 e4
                injection e1 with e1
                injection e1 with e1 e2 e5
                subst e1 e2 e4
                clear e3 e5
                obtain ⟨ap, hap⟩ : ∃ ap, a p = ap := ⟨_, rfl⟩
                rw [hap] at hcd
                have HDP := hid (show Drv _ (o2 p) ap (S2 p) from hap ▸ HDX.out.drv p hlt)
                clear hap
                go_wp2_with fail
                refine (inventory_any HDP.out (HTM.out p hlt).ok).mono ?_
                rintro e w4 ⟨vl, rfl, hh, hb4⟩
                have hinv := (HTM.out p hlt).inv (Nat.mod_lt _ (by omega)) (pcOf_ok p _ (by omega) (HRL.out p hlt))
                have HSS := hid (seen_succ p S2)
                have hsn : sn (S2 p) = ((invOf (S2 p)).length != 0) := rfl
                obtain ⟨Av, cv, rfl, hcv⟩ := hh.form
                obtain ⟨er, her, hor⟩ : ∃ er, (if (S2 p).online = true then (0 : Int) else 105) = er ∧ (er = 0 ∨ er = 105) := ⟨_, rfl, by split <;> simp⟩
                rw [her]
                generalize invOf (S2 p) = LS at *
                have hLS : LS.length ≤ 1 := by rcases hinv with h | h <;> rw [h] <;> simp
                have HSN := hid hsn
                have HIV := hid hinv
                have HH4 := hid hh
                have HX4 := hid (HB.out.trans (hb4.mono HB.out.size))
                have HF4 := hid (HFR.out.below hb4)
                have HW4 := hid hb4.size
                clear hsn hinv hh hb4 her HDP HDX HB HFR hcd
                rcases hor with rfl | rfl
                all_goals
                  go_wp2_with fail
                  go_loopw [22, 26] (fun v j wy => ∃ (q : Nat) (oh2 : Own) (idx2 : List Nat) (us2 : List Value), q ≤ LS.length ∧ j = .int .i64 q ∧ Hid (q = 0 → wy = w4) ∧ Hid (Below wc.heap.size wc wy) ∧ Hid (Frs wc wy oh2 v idx2 us2 (fun j => combine (coefs k j) D)) ∧ Hid (idx2 = idx ++ if q = 0 then [] else [p])) (fun _ j _ => (LS.length - intOf j).toNat)
                  case atStart => exact ⟨0, oh, idx, us, Nat.zero_le _, rfl, fun _ => rfl, HX4, HF4, hid (List.append_nil _).symm⟩
                  case round =>
                    obtain ⟨q, oh2, idx2, us2, hq, rfl, HQ0, HX5, HF5, HI5⟩ := hrel
                    by_cases hlq : q < LS.length
                    · obtain rfl : q = 0 := by omega
                      obtain rfl := HQ0.out rfl
                      obtain ⟨g, off, cv', e, hng, hgl, _, _, hcc, _⟩ := HH4.out.some_ (by omega)
                      injection e with e1 e3 e4
                      subst e1 e4
                      clear e3
                      have hL1 : LS = [⟨(p % 4 : Nat), pcOf p (combine (coefs k p) D)⟩] := by
                        rcases HIV.out with h | h
                        · rw [h] at hlq; simp at hlq
                        · exact h
                      have hc2 := hcc 2 (.int .i64 (p : Int)) (by rw [hL1]; rfl)
                      have hc6 := hcc 6 (.string (bstr (combine (coefs k p) D))) (by rw [hL1]; rfl)
                      have HL1 := hid hL1
                      have HIL := hid (show idx2.length ≤ 8 by
                        rw [HI5.out, HIX.out, if_pos rfl, List.append_nil]
                        have := List.length_filter_le (fun i => sn (S2 i)) (List.range p)
                        rw [List.length_range] at this
                        omega)
                      clear hL1 hcc HQ0 HH4
                      obtain ⟨j0, hj0, hjz0, hjz1, hjz2⟩ := info_parts Try.info_fragment
                      have HBA := hid (bytes_new wr.drew 5 (combine (coefs k p) D))
                      have hxs : (bstr (combine (coefs k p) D)).size = 16 := by rw [bstr_size, HRL.out p hlt]
                      have kc := Lib.run_convert_string_bytes (P := Try.prog) wr.drew 9 22 5 (bstr (combine (coefs k p) D)) Try.underlying9 Try.underlying22 Try.underlying5
                      have hbw := Lib.bytesWorld_below wr.drew 5 (bstr (combine (coefs k p) D))
                      rw [hxs] at kc
                      rw [show wr.drew.heap.size = wr.heap.size by simp] at kc hbw
                      generalize grownCap wr.drew 16 0 5 = gc at kc
                      generalize Lib.bytesWorld wr.drew 5 (bstr (combine (coefs k p) D)) = WB at *
                      generalize bstr (combine (coefs k p) D) = X at *
                      have HBW := hid ((Below.drew (Below.refl wr.heap.size wr)).trans hbw)
                      have d2 : wr.drew.cell? ⟨g, off + 1 + 1, none⟩ = some (.int .i64 (p : Int)) := hc2
                      have d6 : wr.drew.cell? ⟨g, off + 1 + 5, none⟩ = some (.string X) := hc6
                      have e2 : WB.cell? ⟨g, off + 1 + 1, none⟩ = some (.int .i64 (p : Int)) := (HBW.out.cell (p := ⟨g, off + 1 + 1, none⟩) hgl).trans hc2
                      have e6 : WB.cell? ⟨g, off + 1 + 5, none⟩ = some (.string X) := (HBW.out.cell (p := ⟨g, off + 1 + 5, none⟩) hgl).trans hc6
                      clear hbw hc2 hc6 hxs
                      have HBB := hid (show Below wr.heap.size wr (WB.alloc (.cells #[.int .i64 (p : Int), .slice (some ⟨wr.heap.size, 0, none⟩) 16 gc] 50)) from HBW.out.alloc HBW.out.size _)
                      have HF6 := hid (HF5.out.below HBB.out)
                      have HX6 := hid (HX5.out.trans (HBB.out.mono HX5.out.size))
                      have HBA6 := hid (show ByteAt (WB.alloc (.cells #[.int .i64 (p : Int), .slice (some ⟨wr.heap.size, 0, none⟩) 16 gc] 50)) wr.heap.size 0 (combine (coefs k p) D) from HBA.out.below ((Below.refl _ _).alloc (Nat.le_refl _) _))
                      have HNO := hid (show ¬ oh2 wr.heap.size from fun e => by have := HF5.out.under _ e; omega)
                      have HIE := hid (show idx2 ++ [p] = idx ++ if 1 = 0 then [] else [p] by rw [HI5.out]; simp)
                      clear HX4 HF4 HX5 HF5 HBW HBA HI5 HIX HIV HL1
                      go_upto_region 33 with fail
                      go_region_law
                        ((refine step_append_sl (by rfl) (.tmp 204) (.tmp 219) 43 (by rfl) 50 j0 _ 2 32 Try.underlying43 hj0 hjz0 hjz1 hjz2 rfl (by decide) oh2 _ (.slice (some ⟨WB.heap.size, 0, none⟩) 1 1) idx2.length 1 (frCells idx2 us2) [.int .i64 (p : Int), .slice (some ⟨wr.heap.size, 0, none⟩) 16 gc] (by rfl) (by rfl) HF6.out.own ⟨rfl, .inr ⟨_, 1, rfl, World.news_of_block (cs := #[.int .i64 (p : Int), .slice (some ⟨wr.heap.size, 0, none⟩) 16 gc]) (fr := (0, 0)) (heap_alloc_new WB _)⟩⟩ (by intro u hu; simp at hu; rcases hu with rfl | rfl <;> rfl) (by have := HIL.out; unfold maxLen; omega) (by have := HIL.out; omega) ?_; intro v6 w6 hown6 hgrow))
                      all_goals
                        have HF7 := hid (HF6.out.add p wr.heap.size gc HNO.out HBA6.out HX6.out.size hown6 hgrow)
                        have HX7 := hid (below_of_fr HX6.out hgrow HF6.out.above HX6.out.size)
                        clear hown6 hgrow HF6 HX6 HBA6 HNO HBB
                        go_wp2
                        refine ⟨?_, ?_⟩
                        · first
                            | exact ⟨1, _, _, _, by omega, by go_num, hid (fun e => absurd e (by decide)), HX7, HF7, HIE⟩
                            | (iterate 90 (try apply Exists.intro); refine ⟨?_, rfl⟩; exact ⟨1, _, _, _, by omega, by go_num, hid (fun e => absurd e (by decide)), HX7, HF7, HIE⟩)
                        · (simp [intOf]; try omega)
                    · obtain rfl : q = LS.length := by omega
                      have HI6 := hid (show idx2 = (List.range (p + 1)).filter fun i => sn (S2 i) by
                        rw [HI5.out, HIX.out, HSS.out]
                        congr 1
                        rw [HSN.out]
                        rcases HIV.out with h | h <;> rw [h] <;> simp)
                      clear HI5 HQ0 HH4
                      go_wp2
                      refine ⟨?_, ?_⟩
                      · iterate 90 (try apply Exists.intro)
                        refine ⟨?_, rfl⟩
                        exact ⟨p + 1, _, _, _, by omega, by go_num, HX5, HF5, HI6⟩
                      · (simp [intOf]; try omega)
              · obtain rfl : p = k + m := by omega
                have HKI := hid (show k ≤ idx.length by rw [HIX.out]; exact seen_enough HTL.out HRL.out (by omega) HTF.out)
                have HIL := hid (show idx.length ≤ 8 by
                  rw [HIX.out]
                  have := List.length_filter_le (fun i => sn (S2 i)) (List.range (k + m))
                  rw [List.length_range] at this
                  omega)
                have HSU := hid (show idx.Sublist (List.range (k + m)) by rw [HIX.out]; exact List.filter_sublist)
                have HIM := hid (show ∀ j (h : j < idx.length), (combine (coefs k idx[j]) D).length = 16 from fun j h => HRL.out _ (List.mem_range.1 (HSU.out.subset (List.getElem_mem h))))
                have hwc := (HB2.out.trans (HDR.out.below.mono hw20)).trans (HB.out.mono (HB2.out.trans (HDR.out.below.mono hw20)).size)
                have HWC := hid hwc
                clear hwc HB HDR HTM HTF HTL HIX HC2
                go_wp2_with fail
                refine (decode_any (HFR.out.frags (by have := HIL.out; omega)) (HFR.out.uses HIM.out) HSU.out HKI.out HL.out HN.out hk1 hk4 hm4).mono ?_
                rintro e w7 ⟨b7, off7, rfl, hr7, hb7⟩
                have HR7 := hid hr7
                have HW7 := hid (HWC.out.trans (hb7.mono HWC.out.size))
                clear hr7 hb7 HWC HFR
                go_wp2_with fail
                rw [HT.out]
                have HBI7 := hid (HBI.out.below HW7.out)
                refine (split_ref HBI7.out.sl HBI7.out.len HBI7.out.none_ hk1 hk4 htk).mono ?_
                rintro e w8 ⟨v8, rfl, ⟨b8, off8, c8, rfl⟩, hr8, hb8⟩
                rw [HSD.out] at hr8
                have HR8 := hid hr8
                have HR9 := hid (HR7.out.below hb8)
                have HW8 := hid (HW7.out.trans (hb8.mono HW7.out.size))
                clear hr8 hb8 HR7 HW7
                go_wp2_with fail
                go_loopw [31] (fun i wx => ∃ (j : Nat), j ≤ k ∧ i = .int .i64 j ∧ Hid (Below w8.heap.size w8 wx)) (fun i _ => (k - intOf i).toNat)
                case atStart => exact ⟨0, Nat.zero_le _, rfl, Below.refl _ _⟩
                case round =>
                  obtain ⟨j, hj, rfl, HBX⟩ := hrel
                  by_cases hjk : j < k
                  · have hD16 : (D.getD j []).length = 16 := by
                      rw [List.getD_eq_getElem?_getD, List.getElem?_eq_getElem (by rw [HL.out]; exact hjk)]
                      exact HN.out _ (List.getElem_mem _)
                    obtain ⟨l7, h7⟩ := HR9.out.box HL.out (by omega)
                    obtain ⟨u7, hu7, hs7⟩ := h7 j hjk
                    obtain ⟨p7, q7, s7, rfl, _⟩ := hs7.at_ hD16 (by omega)
                    have hat7 := hs7.at1 hD16 (by omega)
                    obtain ⟨l8, h8⟩ := HR8.out.box HL.out (by omega)
                    obtain ⟨u8, hu8, hs8⟩ := h8 j hjk
                    obtain ⟨p8, q8, s8, rfl, _⟩ := hs8.at_ hD16 (by omega)
                    have hat8 := hs8.at1 hD16 (by omega)
                    have HBY := hid (show Below w8.heap.size w8 wr.drew from HBX.out.drew)
                    have z7 : wr.drew.cell? ⟨b7, off7 + j, none⟩ = _ := (HBY.out.cell (p := ⟨b7, off7 + j, none⟩) l7).trans hu7
                    have z8 : wr.drew.cell? ⟨b8, off8 + j, none⟩ = _ := (HBY.out.cell (p := ⟨b8, off8 + j, none⟩) l8).trans hu8
                    have y7 := (hat7.below HBY.out).str hD16 s7
                    have y8 := (hat8.below HBY.out).str hD16 s8
                    generalize bstr (D.getD j []) = X at *
                    have hj0 : (0 : Int) ≤ (j : Int) := by omega
                    have hj1 : (j : Int) < (k : Int) := by omega
                    clear h7 h8 hu7 hu8 hs7 hs8 hat7 hat8 hD16
                    go_upto_region 41 with fail
                    go_region
                    all_goals
                      go_wp2
                      refine ⟨?_, ?_⟩
                      · first
                          | exact ⟨j + 1, by omega, by go_num, HBY⟩
                          | (iterate 90 (try apply Exists.intro); refine ⟨?_, rfl⟩; exact ⟨j + 1, by omega, by go_num, HBY⟩)
                      · (simp [intOf]; try omega)
                  · obtain rfl : j = k := by omega
                    go_wp2_with (go_at_call 4; refine (runsum_any _).mono ?_; rintro e w2 ⟨rfl, rfl⟩)
                    go_ret
                    exact ⟨rfl, HW8.out.trans (HBX.out.mono HW8.out.size)⟩
end Go.Proofs.Ytgeopgibjmhehaa
