/- Inventory of the reference; SameHeld. -/
import Derived.Test.YtegekmdechcikaaSC
namespace Go.Proofs.Ytegekmdechcikaa
open Go Go.RowKit Go.Sort

theorem Ref.slots_on {w : World} {o : Own} {a : Nat} {S : Dv} (h : Ref w o a S) : w.cell? ⟨a, 0, none⟩ = some (.int .i64 S.claim) ∧ w.cell? ⟨a, 2, none⟩ = some (.bool S.online) := by
  obtain ⟨R, ⟨p, b, c, pv, h⟩, hr⟩ := h
  have h0 := h.cells.1
  have h2 := h.cells.2.2.1
  rw [hr.claim] at h0
  rw [hr.on] at h2
  exact ⟨h0, h2⟩
theorem ref_read_b {w : World} {o : Own} {a : Nat} {S : Dv} (h : Ref w o a S) (hS : S.Ok) (s : Int) : Calls Try.prog 56 #[.pointer (some ⟨a, 0, none⟩), .int .i64 s] w fun e w' => e = .returned (.tuple #[.string (S.read s).1, .int .i64 (S.read s).2]) ∧ Below w.heap.size w w' :=
  (ref_read_e h hS s).mono fun _ _ ⟨he, n, hw⟩ => ⟨he, by rw [hw]; exact below_drew w n⟩
section
variable {w : World} {o : Own} {a : Nat} {S : Dv}
set_option maxRecDepth 100000 in
set_option maxHeartbeats 2000000 in
theorem inventory_ref (h : Ref w o a S) (hS : S.Ok) :
    Calls Try.prog 33 #[.pointer (some ⟨a, 0, none⟩)] w fun e w' => ∃ v, e = .returned (.tuple #[v, .int .i64 (if S.online = true then 0 else 105)]) ∧ Helds w' (New w) v (invOf S) ∧ Below w.heap.size w w' := by
  have HU := hid h.under
  have HH := hid h
  have HS := hid hS
  have hc0 : 1 ≤ S.claim := by have := hS.one; have := hS.le; omega
  have hc1 := hS.top
  obtain ⟨z0, z2⟩ := h.slots_on
  clear h hS
  obtain ⟨i0, hi0, hz0, hz1, hz2⟩ := info_parts Try.info_held
  cases ho : S.online
  case false =>
    have hinv : invOf S = [] := inv_off ho
    rw [hinv, if_neg (by simp)]
    rw [ho] at z2
    clear ho hinv
    go_enter Try.func33, Try.ntmps33
    go_wp2
    go_ret2
    exact ⟨_, rfl, OwnSl.nil _ _ _, Below.refl _ _⟩
  case true =>
    have hinv : invOf S = inv S S.claim.toNat := by unfold invOf; rw [if_pos ho]
    rw [hinv, if_pos rfl]
    rw [ho] at z2
    clear ho hinv
    obtain ⟨n, hn⟩ := Int.eq_ofNat_of_zero_le (show 0 ≤ S.claim by omega)
    have hn1 : n ≤ 128 := by omega
    have HN := hid hn
    rw [show S.claim.toNat = n by omega]
    clear hn hc0 hc1 z0
    go_enter Try.func33, Try.ntmps33
    go_wp2_with fail
    go_loopw [4, 5] (fun v i wr => ∃ (k : Nat), k ≤ n ∧ i = .int .i64 k ∧ Helds wr (New w) v (inv S k) ∧ Hid (Ref wr o a S) ∧ Below w.heap.size w wr) (fun _ i _ => (n - intOf i).toNat)
    case atStart => exact ⟨0, Nat.zero_le _, rfl, OwnSl.nil _ _ _, HH, Below.refl _ _⟩
    case round =>
      clear HH z2
      obtain ⟨k, hk, rfl, hv, HD, hb⟩ := hrel
      have z0 := HD.out.slots_on.1
      rw [HN.out] at z0
      by_cases hlt : k < n
      · obtain ⟨A, cap, rfl, hcap⟩ := hv.form
        have hil := inv_length S k
        have hsm := read_small HS.out (k : Int)
        have hnx := inv_succ S k
        have hh1 : held1 S (k : Int) = if (S.read k).2 = 0 ∧ errOf (S.read k).1.data.toList = 0 then [({ slot := k, pc := pieceOf (S.read k).1.data.toList } : Hd)] else [] := rfl
        rw [hh1] at hnx
        have HV := hid hv
        have HNX := hid hnx
        clear hv hnx hh1
        go_wp2_with fail
        refine (ref_read_b HD.out HS.out (k : Int)).mono ?_
        rintro e w3 ⟨rfl, hb3⟩
        generalize (S.read (k : Int)).1 = x at *
        generalize (S.read (k : Int)).2 = er at *
        have HV3 := hid (OwnSl.below HV.out hb3)
        have HD3 := hid (HD.out.below hb3)
        have hw3 := hb.trans (hb3.mono hb.size)
        clear hb3 HV HD hb z0
        go_wp2_with fail
        refine (dec_ref x _ (by unfold maxLen; omega)).mono ?_
        rintro e w4 ⟨rfl, hb4⟩
        rw [decCells_eq]
        have HV4 := hid (OwnSl.below HV3.out hb4)
        have HD4 := hid (HD3.out.below hb4)
        have hw4 := hw3.trans (hb4.mono hw3.size)
        clear hb4 HV3 HD3 hw3
        generalize pieceOf x.data.toList = p at *
        generalize errOf x.data.toList = ed at *
        have hb5 : Below w4.heap.size w4 (w4.alloc (.cells p.cells.toArray 23)) := (Below.refl _ _).alloc (Nat.le_refl _) _
        have HV5 := hid (OwnSl.below HV4.out hb5)
        have HD5 := hid (HD4.out.below hb5)
        have hw5 := hw4.trans (hb5.mono hw4.size)
        have hg5 := heap_alloc_new w4 (.cells p.cells.toArray 23)
        have hgl : w4.heap.size < (w4.alloc (.cells p.cells.toArray 23)).heap.size := by simp
        go_upto_region 9 with fail
        clear hb5 HV4 HD4 hw4
        generalize w4.alloc (.cells p.cells.toArray 23) = w5 at *
        generalize w4.heap.size = q at *
        by_cases hd : er = 0 ∧ ed = 0
        · have hnx2 : inv S (k + 1) = inv S k ++ [({ slot := k, pc := p } : Hd)] := by rw [HNX.out, if_pos hd]
          obtain ⟨rfl, rfl⟩ := hd
          have HNX2 := hid hnx2
          have y0 := cell_block hg5 0
          have y1 := cell_block hg5 1
          have y2 := cell_block hg5 2
          have y3 := cell_block hg5 3
          have y4 := cell_block hg5 4
          have y5 := cell_block hg5 5
          simp only [List.getElem?_toArray, List.getElem?_cons_zero, List.getElem?_cons_succ] at y0 y1 y2 y3 y4 y5
          clear hnx2 HNX hg5
          go_wp2_with (at_builtin; refine wpList_append_sl (by rfl) (.tmp 40) (.tmp 44) 44 (by rfl) 58 i0 _ 7 64 Try.underlying44 hi0 hz0 hz1 hz2 rfl (by decide) (New w) _ (.slice (some ⟨w5.heap.size, 0, none⟩) 1 1) (inv S k).length 1 (hdCells (inv S k)) (Hd.cells { slot := k, pc := p }) (by rfl) (by rfl) (HV5.out.below ((Below.refl _ _).alloc (Nat.le_refl _) _)) ⟨rfl, .inr ⟨_, 1, rfl, World.news_of_block (cs := (Hd.cells { slot := k, pc := p }).toArray) (fr := (0, 0)) (heap_alloc_new w5 _)⟩⟩ (hd_one _) (by unfold maxLen; omega) (by omega) ?_)
          intro v6 w6 hown6 hgrow
          have hsz5 := hw5.size
          have hb6 : Below w.heap.size w w6 := (hw5.alloc hsz5 _).trans (hgrow.below (fun k e => e) (by simp; omega))
          have hown7 := hid (show Helds w6 (New w) v6 (inv S (k + 1)) by
            rw [HNX2.out]
            show OwnSl _ _ _ _ (inv S k ++ [({ slot := k, pc := p } : Hd)]).length (hdCells (inv S k ++ [({ slot := k, pc := p } : Hd)]))
            rw [List.length_append, show hdCells (inv S k ++ [({ slot := k, pc := p } : Hd)]) = hdCells (inv S k) ++ Hd.cells { slot := k, pc := p } by simp [hdCells]]
            exact hown6.mono (fun x e => by rcases e with e | e; exact e; simp at e; unfold New; omega))
          have hbl6 : Fr (New w) w5 w6 := (Fr.refl (New w) w5).alloc _ |>.trans (fun _ e => .inl e) hgrow
          have HD6 := hid (HD5.out.fr hbl6 (fun k a b => by have := HU.out k a; unfold New at b; omega))
          clear hown6 hgrow hbl6 HV5 HD5 hw5
          go_wp2
          go_roundw
          case rel => exact ⟨k + 1, by omega, by go_num, hown7.out, HD6, hb6⟩
          case measure => (simp [intOf]; try omega)
        · have hnx2 : inv S (k + 1) = inv S k := by rw [HNX.out, if_neg hd, List.append_nil]
          by_cases he : er = 0
          · have hd2 := beq_f (show ed ≠ 0 from fun h => hd ⟨he, h⟩)
            subst he
            clear HNX hd hg5 hgl
            go_wp2
            go_roundw
            case rel => exact ⟨k + 1, by omega, by go_num, by rw [hnx2]; exact HV5.out, HD5, hw5⟩
            case measure => (simp [intOf]; try omega)
          · have hd2 := beq_f he
            clear HNX hd hg5 hgl he
            go_wp2
            go_roundw
            case rel => exact ⟨k + 1, by omega, by go_num, by rw [hnx2]; exact HV5.out, HD5, hw5⟩
            case measure => (simp [intOf]; try omega)
      · obtain rfl : k = n := by omega
        go_wp2
        go_ret2
        exact ⟨_, rfl, hv, hb⟩
end
theorem helds_cells {w : World} {o : Own} {v : Value} {l : List Hd} (h : Helds w o v l) : ∃ A c, v = .slice A l.length c ∧ (0 < l.length → l.length ≤ maxLen ∧ ∃ g off, A = some ⟨g, off, none⟩ ∧ ∀ j u, (l.flatMap Hd.cells)[j]? = some u → w.cell? ⟨g, off + j, none⟩ = some u) := by
  obtain ⟨A, c, rfl, _⟩ := OwnSl.form h
  refine ⟨A, c, rfl, fun h0 => ?_⟩
  obtain ⟨g, off, cap, e, _, _, h1, h2, hc, _⟩ := OwnSl.some_ h h0
  injection e with e1 _ _
  exact ⟨Nat.le_trans h1 h2, g, off, e1, hc⟩
abbrev HdAt (w : World) (g off : Nat) (x : Hd) : Prop := w.cell? ⟨g, off, none⟩ = some (.int .i64 x.slot) ∧ w.cell? ⟨g, off + 1, none⟩ = some (.int .i64 x.pc.vol) ∧ w.cell? ⟨g, off + 2, none⟩ = some (.int .i64 x.pc.frag) ∧ w.cell? ⟨g, off + 3, none⟩ = some (.int .i64 x.pc.stripe) ∧ w.cell? ⟨g, off + 4, none⟩ = some (.int .i64 x.pc.gen) ∧ w.cell? ⟨g, off + 5, none⟩ = some (.int .i64 x.pc.ver) ∧ w.cell? ⟨g, off + 6, none⟩ = some (.string x.pc.data)
theorem hd_at {w : World} {g off : Nat} {l : List Hd} (h : ∀ j u, (l.flatMap Hd.cells)[j]? = some u → w.cell? ⟨g, off + j, none⟩ = some u) (k : Nat) (hk : k < l.length) : HdAt w g (off + k * 7) l[k] :=
  ⟨HeldsAt.cell h k hk 0 _ (by omega) rfl, HeldsAt.cell h k hk 1 _ (by omega) rfl, HeldsAt.cell h k hk 2 _ (by omega) rfl, HeldsAt.cell h k hk 3 _ (by omega) rfl, HeldsAt.cell h k hk 4 _ (by omega) rfl, HeldsAt.cell h k hk 5 _ (by omega) rfl, HeldsAt.cell h k hk 6 _ (by omega) rfl⟩
set_option maxRecDepth 100000 in
set_option maxHeartbeats 2000000 in
theorem same_held {w : World} {o1 o2 : Own} {v1 v2 : Value} {l : List Hd} (h1 : Helds w o1 v1 l) (h2 : Helds w o2 v2 l) :
    Calls Try.prog 34 #[v1, v2] w fun e w' => e = .returned (.bool true) ∧ ∃ n, w' = w.drewN n := by
  obtain ⟨A1, c1, rfl, hf1⟩ := helds_cells h1
  obtain ⟨A2, c2, rfl, hf2⟩ := helds_cells h2
  have HF1 := hid hf1
  have HF2 := hid hf2
  clear h1 h2 hf1 hf2
  have hne := int_self (l.length : Int)
  go_enter Try.func34, Try.ntmps34
  go_wp2
  clear hne
  go_loopw [5] (fun i wr => ∃ k n : Nat, k ≤ l.length ∧ i = .int .i64 k ∧ wr = w.drewN n) (fun i _ => (l.length - intOf i).toNat)
  case atStart => exact ⟨0, 0, Nat.zero_le _, rfl, rfl⟩
  case round =>
    obtain ⟨k, n, hk, rfl, rfl⟩ := hrel
    by_cases hlt : k < l.length
    · obtain ⟨hml, g1, off1, rfl, hc1⟩ := HF1.out (by omega)
      unfold maxLen at hml
      obtain ⟨_, g2, off2, rfl, hc2⟩ := HF2.out (by omega)
      have d1 := hd_at hc1 k hlt
      have d2 := hd_at hc2 k hlt
      clear hc1 hc2
      have hd1 : ∀ m, HdAt (w.drewN m) g1 (off1 + k * 7) l[k] := fun m => d1
      have hd2 : ∀ m, HdAt (w.drewN m) g2 (off2 + k * 7) l[k] := fun m => d2
      have hx0 : (0 : Int) ≤ (k : Int) := by omega
      have hx1 : (k : Int) < (l.length : Int) := by omega
      generalize l[k] = x at *
      go_upto_region 6 with fail
      go_big_quiet (fail)
      go_wp2
      go_roundw
      case rel => exact ⟨k + 1, n + nq, by omega, by go_num, by simp⟩
      case measure => (simp [intOf]; try omega)
    · obtain rfl : k = l.length := by omega
      go_wp2
      go_ret
      exact ⟨rfl, n, rfl⟩
end Go.Proofs.Ytegekmdechcikaa
