/- Write where faults are pending; Write; Erase. -/
import Derived.Test.YtegekmdechcikaaEWrite
namespace Go.Proofs.Ytegekmdechcikaa
open Go Go.RowKit Go.Sort

section
variable {w : World} {o p : Own} {a b c : Nat} {pv : Value} {S : Dv}
theorem Fr.grow {o : Own} {w w1 : World} (_ : Fr o w w1) : ∀ k, o k → Grow o w w1 k := fun _ e => .inl e
theorem Drv.growTo {w w' : World} {o : Own} {a : Nat} {S : Dv} (h : Drv w' o a S) (hf : Fr o w w') (hu : Under w o) : Drv w' (Grow o w w') a S := by
  obtain ⟨p, b, c, pv, h⟩ := h
  exact ⟨p, b, c, pv, h.mono (fun _ e => .inl e) (hf.under hu)⟩
set_option maxRecDepth 100000 in
set_option maxHeartbeats 2000000 in
theorem write_cons (f : Flt) (r : List Flt) (h : DrvB w o p a b c pv S) (hS : S.Ok) (hp : S.pend = f :: r) (t s : Int) (d : ByteArray) :
    Calls Try.prog 15 #[.pointer (some ⟨a, 0, none⟩), .int .i64 t, .int .i64 s, .string d] w fun e w' => e = .returned (.int .i64 (S.write t s d).1) ∧ Drv w' o a (S.write t s d).2 ∧ Fr o w w' := by
  unfold Dv.write
  obtain ⟨c0, c1, c2, c3, c4, c5⟩ := h.cells
  have f4 := h.free 4 (by omega)
  have f5 := h.free 5 (by omega)
  have hfit := hS.pend f (by rw [hp]; exact List.mem_cons_self)
  have hstore : Dv.store { S with term := t } s d = if f.kind = 5 then { S with term := t, pend := r } else Dv.put { S with term := t, pend := r } f.dest ⟨d, false, false⟩ := by unfold Dv.store; rw [hp]
  have HST := hid hstore
  have hpv := h.pend
  rw [hp] at hpv
  obtain ⟨g, off, cap, rfl, hog, hgl, hnc, hcm, _, _⟩ := hpv.some_ (by simp)
  have HH := hid h
  have HS := hid hS
  have HPV := hid hpv
  have HP := hid hp
  clear h hS hstore hp
  cases ho : S.online
  · go_enter Try.func15, Try.ntmps15
    go_wp2_with (go_at_call 42; refine (online_any HH.out HS.out).mono ?_; rintro e w' ⟨rfl, rfl⟩; rw [ho])
    go_ret
    exact ⟨rfl, ⟨_, _, _, _, HH.out⟩, Fr.refl _ _⟩
  · by_cases ht : t < S.term
    · go_enter Try.func15, Try.ntmps15
      go_wp2_with (go_at_call 42; refine (online_any HH.out HS.out).mono ?_; rintro e w' ⟨rfl, rfl⟩; rw [ho])
      go_ret
      exact ⟨by simp, by simpa [ht] using ⟨_, _, _, _, HH.out⟩, Fr.refl _ _⟩
    · cases hsl : S.slot s
      · go_enter Try.func15, Try.ntmps15
        go_wp2_with (first | (go_at_call 42; refine (online_any HH.out HS.out).mono ?_; rintro e w' ⟨rfl, rfl⟩; rw [ho]) | (go_at_call 43; refine (slot_any HH.out s).mono ?_; rintro e w' ⟨rfl, rfl⟩; rw [hsl]))
        go_ret
        exact ⟨by simp, by simpa [ht] using ⟨_, _, _, _, HH.out⟩, Fr.refl _ _⟩
      · by_cases hd : d.size = 36
        · have hs0 := slot_some hsl
          clear c0 c1 c2 c3 c5 f5 hpv
          go_enter Try.func15, Try.ntmps15
          go_upto_region 10 with (first | (go_at_call 42; refine (online_any HH.out HS.out).mono ?_; rintro e w' ⟨rfl, rfl⟩; rw [ho]) | (go_at_call 43; refine (slot_any HH.out s).mono ?_; rintro e w' ⟨rfl, rfl⟩; rw [hsl]))
          have h1 := HH.out.term t
          have hk1 : Fr o w (w.setCell ⟨a, 4, none⟩ (.int .i64 t)) := (Fr.refl o w).setCell _ _ (.inl HH.out.oa)
          generalize w.setCell ⟨a, 4, none⟩ (.int .i64 t) = w1 at h1 hk1 ⊢
          obtain ⟨c0, c1, c2, c3, c4, c5⟩ := h1.cells
          have hpv := h1.pend
          dsimp only at hpv
          rw [HP.out] at hpv
          obtain ⟨g0, g1, g2, g3, g4⟩ := hpv.head
          have HPV := hid hpv
          have H1 := hid h1
          have HK := hid hk1
          clear hpv h1 hk1 c0 c1 c2 c3
          go_upto_region 12 with (fail)
          have hb2 : Below w1.heap.size w1 (w1.alloc (.cells #[.int .i64 f.kind, .int .i64 f.slot, .int .i64 f.bit, .int .i64 f.mask, .int .i64 f.dest] 43)) := (Below.refl _ _).alloc (Nat.le_refl _) _
          have hgq : (w1.alloc (.cells #[.int .i64 f.kind, .int .i64 f.slot, .int .i64 f.bit, .int .i64 f.mask, .int .i64 f.dest] 43)).heap[w1.heap.size]? = some (.cells #[.int .i64 f.kind, .int .i64 f.slot, .int .i64 f.bit, .int .i64 f.mask, .int .i64 f.dest] 43 (0, 0)) := heap_alloc_new w1 _
          have hqa : (a : Nat) ≠ w1.heap.size := by have := H1.out.vals.lt; omega
          have h2 := H1.out.below hb2
          have hk2 := HK.out.thenBelow hb2
          have hpv2 := HPV.out.below hb2
          clear g0 g1 g2 g3 g4 c4 c5 H1 HK HPV
          generalize w1.alloc (.cells #[.int .i64 f.kind, .int .i64 f.slot, .int .i64 f.bit, .int .i64 f.mask, .int .i64 f.dest] 43) = w2 at hb2 hgq h2 hk2 hpv2 ⊢
          generalize w1.heap.size = q at hgq hqa hb2 ⊢
          clear hb2
          have c5 := h2.cells.2.2.2.2.2
          have f5 := h2.free 5 (by omega)
          have hcap : 1 ≤ cap := by simp at hnc; omega
          have HQ := hid hgq
          have H2 := hid h2
          have HK2 := hid hk2
          have HPV2 := hid hpv2
          clear h2 hk2 hpv2 hgq
          have htail := OwnSl.tail HPV2.out
          have H3 : Hid (DrvB (w2.setCell ⟨a, 5, none⟩ (.slice (if cap = 1 then some ⟨g, off, none⟩ else some ⟨g, off + 5, none⟩) r.length (cap - 1))) o p a b c (.slice (if cap = 1 then some ⟨g, off, none⟩ else some ⟨g, off + 5, none⟩) r.length (cap - 1)) { S with term := t, pend := r }) :=
            H2.out.poke 5 _ (by omega) rfl rfl (htail.poke _ _ H2.out.pa) H2.out.pa H2.out.pb H2.out.po
          have HK3 : Hid (Fr o w (w2.setCell ⟨a, 5, none⟩ (.slice (if cap = 1 then some ⟨g, off, none⟩ else some ⟨g, off + 5, none⟩) r.length (cap - 1)))) := HK2.out.setCell _ _ (.inl H2.out.oa)
          have HQ3 : Hid ((w2.setCell ⟨a, 5, none⟩ (.slice (if cap = 1 then some ⟨g, off, none⟩ else some ⟨g, off + 5, none⟩) r.length (cap - 1))).heap[q]? = some (.cells #[.int .i64 f.kind, .int .i64 f.slot, .int .i64 f.bit, .int .i64 f.mask, .int .i64 f.dest] 43 (0, 0))) :=
            (Below.heap_setCell w2 _ _ q (Ne.symm hqa)).trans HQ.out
          clear htail HPV2 H2 HK2 HQ
          go_upto_region 13 with (fail)
          generalize (if cap = 1 then some (⟨g, off, none⟩ : Addr) else some ⟨g, off + 5, none⟩) = A3 at H3 HK3 HQ3 ⊢
          generalize w2.setCell ⟨a, 5, none⟩ (.slice A3 r.length (cap - 1)) = w3 at H3 HK3 HQ3 ⊢
          have k0 : w3.cell? ⟨q, 0, none⟩ = some (.int .i64 f.kind) := cell_block HQ3.out 0
          have k4 : w3.cell? ⟨q, 4, none⟩ = some (.int .i64 f.dest) := cell_block HQ3.out 4
          by_cases h5 : f.kind = 5
          · go_wp2
            go_ret
            refine ⟨by simp, ?_, HK3.out⟩
            simp only [HST.out, if_pos h5]
            exact ⟨_, _, _, _, H3.out⟩
          · have hf0 : 0 ≤ f.dest := by omega
            have hS3 : Dv.Ok { S with term := t, pend := r } := HS.out.same rfl rfl (fun x hx => by rw [HP.out]; exact List.mem_cons_of_mem _ hx)
            have HS3 := hid hS3
            clear hS3
            go_wp2_with fail
            refine (cell_any H3.out HS3.out f.dest hf0).mono ?_
            rintro e w' ⟨rfl, n1, rfl⟩
            have hk : Dv.at_ { S with term := t, pend := r } f.dest < S.secs.length := Dv.at_lt HS3.out f.dest
            have hth := (H3.out.drewN n1).secs.free _ hk
            go_wp2_with (refine wpList_store_mid rfl 97 (.tmp 64) (.tmp 63) rfl b (Dv.at_ { S with term := t, pend := r } f.dest * 3) #[.string d, .bool false, .bool false] rfl rfl hth cell_size (sec_one _ _ _) ?_)
            go_ret
            refine ⟨by simp, ?_, Fr.setCells (.inl HH.out.ob) _ _ _ (HK3.out.drewN n1)⟩
            have := (H3.out.drewN n1).write _ ⟨d, false, false⟩ hk
            simp only [HST.out, if_neg h5]
            exact ⟨_, _, _, _, this⟩
        · go_enter Try.func15, Try.ntmps15
          go_wp2_with (first | (go_at_call 42; refine (online_any HH.out HS.out).mono ?_; rintro e w' ⟨rfl, rfl⟩; rw [ho]) | (go_at_call 43; refine (slot_any HH.out s).mono ?_; rintro e w' ⟨rfl, rfl⟩; rw [hsl]))
          go_ret
          exact ⟨by simp, by simpa [ht, hd] using ⟨_, _, _, _, HH.out⟩, Fr.refl _ _⟩
theorem write_e {w : World} {o : Own} {a : Nat} {S : Dv} (h : Drv w o a S) (hS : S.Ok) (t s : Int) (d : ByteArray) :
    Calls Try.prog 15 #[.pointer (some ⟨a, 0, none⟩), .int .i64 t, .int .i64 s, .string d] w fun e w' => e = .returned (.int .i64 (S.write t s d).1) ∧ Drv w' o a (S.write t s d).2 ∧ Fr o w w' := by
  obtain ⟨p, b, c, pv, h⟩ := h
  cases hp : S.pend with
  | nil => exact write_nil h hS hp t s d
  | cons f r => exact write_cons f r h hS hp t s d
set_option maxHeartbeats 400000 in
theorem erase_e {w : World} {o : Own} {a : Nat} {S : Dv} (h : Drv w o a S) (hS : S.Ok) (t s : Int) :
    Calls Try.prog 53 #[.pointer (some ⟨a, 0, none⟩), .int .i64 t, .int .i64 s] w fun e w' => e = .returned (.int .i64 (S.write t s blank).1) ∧ Drv w' o a (S.write t s blank).2 ∧ Fr o w w' := by
  have HH := hid h
  have HS := hid hS
  clear h hS
  go_enter Try.func53, Try.ntmps53
  go_wp2_with fail
  refine (zero_any _).mono ?_
  rintro e w1 ⟨rfl, hb1⟩
  have H1 := hid (HH.out.below hb1)
  have HK := hid (Fr.ofBelow (o := o) hb1)
  clear hb1 HH
  go_wp2_with fail
  refine (write_e H1.out HS.out t s blank).mono ?_
  rintro e w2 ⟨rfl, hd2, hk2⟩
  have HD := hid hd2
  have HK2 := hid (HK.out.trans (fun _ e => .inl e) hk2)
  clear hd2 hk2
  go_wp2
  go_ret
  exact ⟨rfl, HD.out, HK2.out⟩
end
end Go.Proofs.Ytegekmdechcikaa
