/- The maker: Layout. -/
import Derived.Test.YtpoaadjhaknhdaaW41
namespace Go.Proofs.Ytpoaadjhaknhdaa
open Go Go.RowKit Go.Sort Go.Deep

def LayPost (w : World) (gt nr : Nat) (KM : List (Nat × Nat)) (e : Ending) (w' : World) : Prop := ∃ v rows, e = .returned v ∧ RowsAt w' v rows ∧ rows.length = KM.length ∧ (∀ q (h1 : q < rows.length) (h2 : q < KM.length), rows[q].length = KM[q].1 + KM[q].2) ∧ (∀ x ∈ rows, ∀ d ∈ x, -1 ≤ d ∧ d < (nr : Int)) ∧ Fr (Just gt) w w'
section
variable {w : World} {gt I : Nat} {ex : Int} {vl vm vd vr vp vv vn : Value} {nl nd nr np nv : Nat} {KM : List (Nat × Nat)}
set_option maxRecDepth 100000 in
set_option maxHeartbeats 6400000 in
theorem layout_any (ht : TapeAt w gt I) (hI : I ≤ 10000) (hK : Sup (Just gt) w fun W => FleetK W vl vm vd vr vp vv nl nd nr np nv KM) (hn : 1 ≤ nr) (hl3 : KM.length ≤ 3) :
    Calls Try.prog 5 #[.pointer (some ⟨gt, 0, none⟩), .agg (fleetArr ex vl vm vd vr vp vv)] w (LayPost w gt nr KM) := by
  have hk0 := hK.now
  obtain ⟨A0, c0, A1, c1, A2, c2, A3, c3, A4, c4, A5, c5, rfl, rfl, rfl, rfl, rfl, rfl⟩ := hk0.fleet.slices
  have hnv : nv = KM.length := by
    obtain ⟨_, _, _, _, _, _, _, _, _, _, e, _⟩ := hk0.vols
    injection e
  subst hnv
  have hnr : nr ≤ 100 := hk0.fleet.sizes.2.2.2.1
  have HSM := hid hk0.vols.small
  have hgt := ht.lt
  have hb1 := (Below.refl w.heap.size w).alloc (Nat.le_refl _) (.cells (fleetArr ex (.slice A0 nl c0) (.slice A1 2 c1) (.slice A2 nd c2) (.slice A3 nr c3) (.slice A4 np c4) (.slice A5 KM.length c5)) 33)
  have hg1 := heap_alloc_new w (.cells (fleetArr ex (.slice A0 nl c0) (.slice A1 2 c1) (.slice A2 nd c2) (.slice A3 nr c3) (.slice A4 np c4) (.slice A5 KM.length c5)) 33)
  have HK := hid (hK.below hb1)
  have HG := hid hg1
  have HF := hid (Fr.ofBelow (o := Just gt) hb1)
  have HL := hid (show Lay gt (w.alloc (.cells (fleetArr ex (.slice A0 nl c0) (.slice A1 2 c1) (.slice A2 nd c2) (.slice A3 nr c3) (.slice A4 np c4) (.slice A5 KM.length c5)) 33)) (w.alloc (.cells (fleetArr ex (.slice A0 nl c0) (.slice A1 2 c1) (.slice A2 nd c2) (.slice A3 nr c3) (.slice A4 np c4) (.slice A5 KM.length c5)) 33)) I (.slice none 0 0) [] NoOwn [] from ⟨ht.below hb1, Fr.refl _ _, OwnSl.nil _ _ _, (fun j hj => by cases hj), (fun _ e => e.elim), (fun _ e => e.elim), Nat.lt_of_lt_of_le hgt hb1.size⟩)
  obtain ⟨nv, hnv⟩ : ∃ n, KM.length = n := ⟨_, rfl⟩
  have HNV := hid hnv
  rw [hnv] at HK HG HF HL hl3 ⊢
  obtain ⟨i0, hi0, hz0, hz1, hz2⟩ := info_parts Try.info_int
  obtain ⟨j0, hj0, hjz0, hjz1, hjz2⟩ := info_parts Try.info_ints
  clear hb1 hg1 hk0 hK ht hnv
  go_enter Try.func5, Try.ntmps5
  go_wp2_with fail
  generalize w.alloc (.cells (fleetArr ex (.slice A0 nl c0) (.slice A1 2 c1) (.slice A2 nd c2) (.slice A3 nr c3) (.slice A4 np c4) (.slice A5 nv c5)) 33) = w1 at *
  go_loopw [5, 6] (fun l v wx => ∃ (q I1 : Nat) (rows : List (List Int)) (o : Own) (us : List Value), q ≤ nv ∧ v = .int .i64 (q : Nat) ∧ Hid (rows.length = q ∧ I1 ≤ I + 8 * q) ∧ Hid ((∀ j (h1 : j < rows.length) (h2 : j < KM.length), rows[j].length = KM[j].1 + KM[j].2) ∧ ∀ x ∈ rows, ∀ d ∈ x, -1 ≤ d ∧ d < (nr : Int)) ∧ Hid (Lay gt w1 wx I1 l rows o us)) (fun _ v _ => (nv - intOf v).toNat)
  case atStart => exact ⟨0, I, [], NoOwn, [], Nat.zero_le _, rfl, hid ⟨rfl, by omega⟩, hid ⟨(fun j h1 => by cases h1), (fun x hx => by cases hx)⟩, HL⟩
  case round =>
    clear HL
    obtain ⟨q, I1, rows, o, us, hq, rfl, HR, HE, HL⟩ := hrel
    have ⟨f0, f1, f2, f3, f4, f5, f6⟩ := held_fr HG.out hgt HL.out.fr
    by_cases hqv : q < nv
    · have hqk : q < KM.length := by rw [HNV.out]; exact hqv
      obtain ⟨nq, hnq⟩ : ∃ k, KM[q].1 + KM[q].2 = k := ⟨_, rfl⟩
      have hq4 : nq ≤ 4 := by have := HSM.out _ (List.getElem_mem hqk); omega
      have HNQ := hid hnq
      have hrq := HR.out.1
      have hI1 := HR.out.2
      have HQK := hid hqk
      rename World => ws
      have HROW := hid (InRow.start (nr := nr) HL.out.tape 3)
      go_wp2_with fail
      clear f0 f1 f2 f3 f4 f5 f6
      go_loopw [7, 8] (fun u i wx => ∃ (p I2 : Nat) (row : List Int) (orr : Own), p ≤ nq ∧ i = .int .i64 (p : Nat) ∧ Hid (row.length = p ∧ I2 ≤ I1 + 2 * p) ∧ Hid (InRow gt nr ws wx I2 u row orr)) (fun _ i _ => (nq - intOf i).toNat)
      case atStart => exact ⟨0, I1, [], Just ws.heap.size, Nat.zero_le _, rfl, hid ⟨rfl, by omega⟩, HROW⟩
      case round =>
        clear HROW
        obtain ⟨p, I2, row, orr, hp, rfl, HP, HW⟩ := hrel
        have hrp := HP.out.1
        have hI2 := HP.out.2
        have HFr := hid (HL.out.fr.trans (fun _ e => .inl e) HW.out.fr)
        have ⟨f0, f1, f2, f3, f4, f5, f6⟩ := held_fr HG.out hgt HFr.out
        go_wp2_with fail
        clear f0 f1 f2 f3 f4 f5 f6
        refine (size_len (HK.out _ HFr.out) q HQK.out nq HNQ.out.symm).mono ?_
        rintro e w3 ⟨rfl, hb⟩
        have HW3 := hid (HW.out.below hb)
        have HFr3 := hid (HFr.out.thenBelow hb)
        clear hb HW HFr
        by_cases hpl : p < nq
        · have ⟨f0, f1, f2, f3, f4, f5, f6⟩ := held_fr HG.out hgt HFr3.out
          go_wp2_with fail
          clear f0 f1 f2 f3 f4 f5 f6
          refine (next_any HW3.out.tape (by omega) nr hn (by omega)).mono ?_
          rintro e w4 ⟨r, hr, rfl, ht4, hf4⟩
          have HW4 := hid (HW3.out.step hf4 ht4)
          have HFr4 := hid (HFr3.out.trans (fun _ e => .inl e) hf4)
          clear ht4 hf4 HW3 HFr3
          go_wp2_with fail
          go_loopw [9, 10] (fun d k wx => ∃ (dd kk : Nat), dd < nr ∧ kk ≤ nr ∧ d = .int .i64 (dd : Nat) ∧ k = .int .i64 (kk : Nat) ∧ Hid (wx = w4)) (fun _ k _ => (nr - intOf k).toNat)
          case atStart => exact ⟨r, 0, hr, Nat.zero_le _, rfl, rfl, hid rfl⟩
          case round =>
            obtain ⟨dd, kk, hd, hk, rfl, rfl, HX⟩ := hrel
            obtain rfl := HX.out
            have ⟨f0, f1, f2, f3, f4, f5, f6⟩ := held_fr HG.out hgt HFr4.out
            have hcase : (kk < nr ∧ (dd : Int) ∈ row) ∨ (kk < nr ∧ ¬ (dd : Int) ∈ row) ∨ nr = kk := by
              rcases Nat.lt_or_ge kk nr with e | e
              · by_cases hm : (dd : Int) ∈ row
                · exact .inl ⟨e, hm⟩
                · exact .inr (.inl ⟨e, hm⟩)
              · exact .inr (.inr (by omega))
            rcases hcase with ⟨hkn, hm⟩ | ⟨hkn, hm⟩ | rfl
            · have HM := hid hm
              clear hm
              go_wp2_with fail
              refine (has_any HW4.out.list _).mono ?_
              rintro e w5 ⟨rfl, rfl⟩
              rw [decide_eq_true HM.out]
              go_wp2
              refine ⟨?_, ?_⟩
              · exact ⟨(dd + 1) % nr, kk + 1, Nat.mod_lt _ hn, by omega, by rw [Int.natCast_emod]; rfl, rfl, HX⟩
              · (simp [intOf]; try omega)
            case' inr.inl =>
              have HM := hid hm
              clear hm
              go_wp2_with fail
              refine (has_any HW4.out.list _).mono ?_
              rintro e w5 ⟨rfl, rfl⟩
              rw [decide_eq_false HM.out]
              clear HM
            all_goals
              go_upto_region 14 with fail
              clear f0 f1 f2 f3 f4 f5 f6
              go_cut [56] (fun b wx => ∃ (bb : Bool) (I3 : Nat), b = .bool bb ∧ Hid (I3 ≤ I2 + 2) ∧ Hid (InRow gt nr ws wx I3 u7 row orr))
              case first =>
                go_wp2_with fail
                refine (has_any HW4.out.list _).mono ?_
                rintro e w5 ⟨rfl, rfl⟩
                by_cases hm : (dd : Int) ∈ row
                · rw [decide_eq_true hm]
                  clear hm
                  go_wp2_with fail
                  go_meet
                  exact ⟨true, I2 + 1, rfl, hid (by omega), HW4⟩
                · rw [decide_eq_false hm]
                  clear hm
                  go_wp2_with fail
                  refine (next_any HW4.out.tape (by omega) 12 (by omega) (by omega)).mono ?_
                  rintro e w6 ⟨r2, hr2, rfl, ht6, hf6⟩
                  have HW6 := hid (HW4.out.step hf6 ht6)
                  clear ht6 hf6
                  go_wp2_with fail
                  go_meet
                  exact ⟨_, I2 + 1 + 1, rfl, hid (by omega), HW6⟩
              case rest =>
                clear HW4 HFr4
                obtain ⟨bb, I3, rfl, HI3, HW6⟩ := hcut
                go_upto_if 56 with fail
                go_cut [9] (fun d wx => ∃ x : Int, d = .int .i64 x ∧ Hid (-1 ≤ x ∧ x < (nr : Int)) ∧ Hid (InRow gt nr ws wx I3 u7 row orr))
                case first =>
                  cases bb
                  · go_wp2_with fail
                    go_meet
                    exact ⟨_, rfl, hid (by omega), HW6⟩
                  · go_wp2_with fail
                    go_meet
                    exact ⟨_, rfl, hid (by omega), HW6⟩
                case rest =>
                  clear HW6
                  obtain ⟨x, rfl, HXR, HW7⟩ := hcut
                  have HBX := hid ((Below.refl wc.heap.size wc).alloc (Nat.le_refl _) (.cells #[.int .i64 x] 3))
                  have HO := hid HW7.out.own
                  rw [hrp] at HO
                  obtain ⟨A, c, rfl, hcc⟩ := HO.out.form
                  go_wp2_with (at_builtin; refine wpList_append_sl (by rfl) (.tmp 57) (.tmp 59) 22 (by rfl) 3 i0 _ 1 8 Try.underlying22 hi0 hz0 hz1 hz2 rfl (by decide) orr _ (.slice (some ⟨wc.heap.size, 0, none⟩) 1 1) p 1 (intVals row) [.int .i64 x] (by rfl) (by rfl) (HO.out.below HBX.out) ⟨rfl, .inr ⟨_, 1, rfl, World.news_of_block (cs := #[.int .i64 x]) (fr := (0, 0)) (heap_alloc_new wc _)⟩⟩ (by intro u hu; simp at hu; subst hu; rfl) (by unfold maxLen; omega) (by omega) ?_)
                  intro v6 w6 hown6 hgrow
                  have HW8 := hid (HW7.out.add HBX.out HXR.out (by rw [hrp]; exact hown6) hgrow)
                  clear hown6 hgrow HO HBX HW7
                  go_wp2
                  refine ⟨?_, ?_⟩
                  · exact ⟨p + 1, I3, row ++ [x], _, by omega, by go_num, hid ⟨by rw [List.length_append, hrp]; rfl, by have := HI3.out; omega⟩, HW8⟩
                  · (simp [intOf]; try omega)
        · obtain rfl : p = nq := by omega
          have HENT := hid HW3.out.ent
          have HO2 := hid HW3.out.own
          rw [hrp] at HO2
          obtain ⟨A, c, rfl, hcc⟩ := HO2.out.form
          have HBX := hid ((Below.refl w3.heap.size w3).alloc (Nat.le_refl _) (.cells #[.slice A p c] 22))
          have HO := hid (HL.out.step HW3.out.fr HW3.out.tape).out
          rw [hrq] at HO
          obtain ⟨A', c', rfl, hcc5⟩ := HO.out.form
          go_wp2_with (at_builtin; refine wpList_append_sl (by rfl) (.tmp 61) (.tmp 63) 36 (by rfl) 22 j0 _ 1 24 Try.underlying36 hj0 hjz0 hjz1 hjz2 rfl (by decide) o _ (.slice (some ⟨w3.heap.size, 0, none⟩) 1 1) q 1 us [.slice A p c] (by rfl) (by rfl) (HO.out.below HBX.out) ⟨rfl, .inr ⟨_, 1, rfl, World.news_of_block (cs := #[.slice A p c]) (fr := (0, 0)) (heap_alloc_new w3 _)⟩⟩ (by intro u hu; simp at hu; subst hu; rfl) (by unfold maxLen; omega) (by omega) ?_)
          intro v6 w6 hown6 hgrow
          have HL8 := hid (HL.out.add HW3.out.fr HW3.out.tape HW3.out.own HW3.out.ab HBX.out (by rw [hrq]; exact hown6) hgrow)
          clear hown6 hgrow HO HO2 HBX HW3 HFr3
          go_wp2
          refine ⟨?_, ?_⟩
          · refine ⟨q + 1, I2, rows ++ [row], _, _, by omega, by go_num, hid ⟨by rw [List.length_append, hrq]; rfl, by omega⟩, hid ⟨fun j h1 h2 => ?_, fun y hy d hd => ?_⟩, HL8⟩
            · rcases Nat.lt_or_ge j rows.length with e | e
              · rw [List.getElem_append_left e]
                exact HE.out.1 j e h2
              · have e2 : j = q := by rw [List.length_append] at h1; simp at h1; omega
                subst e2
                rw [List.getElem_append_right (by omega)]
                simp only [hrq, Nat.sub_self, List.getElem_cons_zero]
                rw [HNQ.out]
                exact hrp
            · rcases List.mem_append.1 hy with e | e
              · exact HE.out.2 y e d hd
              · simp at e
                subst e
                exact HENT.out d hd
          · (simp [intOf]; try omega)
    · obtain rfl : nv = q := by omega
      go_wp2
      go_ret
      exact ⟨_, rows, rfl, HL.out.rowsAt, HR.out.1.trans HNV.out.symm, HE.out.1, HE.out.2, HF.out.trans (fun _ e => .inl e) HL.out.fr⟩
end
end Go.Proofs.Ytpoaadjhaknhdaa
