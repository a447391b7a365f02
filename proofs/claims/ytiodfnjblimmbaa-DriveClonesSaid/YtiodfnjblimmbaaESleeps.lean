/- DriveSleeps. -/
import Derived.Test.YtiodfnjblimmbaaEDies
namespace Go.Proofs.Ytiodfnjblimmbaa
open Go Go.RowKit Go.Sort

theorem off_read {S : Dv} (h : S.online = false) (s : Int) : S.read s = (⟨#[]⟩, 105) := by unfold Dv.read; rw [if_pos h]
theorem off_write {S : Dv} (h : S.online = false) (t s : Int) (d : ByteArray) : S.write t s d = (105, S) := by unfold Dv.write; rw [if_pos h]
theorem off_fence {S : Dv} (h : S.online = false) (t : Int) : S.fence t = (105, S) := by unfold Dv.fence; rw [if_pos h]
theorem vanish_eq {S : Dv} (h : S.dead = false) : S.inject ⟨1, 0, 0, 0, 0⟩ = (0, { S with off := true }) := by
  unfold Dv.inject
  rw [if_neg (by rw [show Dv.valid S.claim ⟨1, 0, 0, 0, 0⟩ = true from rfl]; simp), if_neg (by simp [h])]
  rfl
theorem return_eq {S : Dv} (h : S.dead = false) : Dv.inject { S with off := true } ⟨2, 0, 0, 0, 0⟩ = (0, { S with off := false }) := by
  unfold Dv.inject
  rw [if_neg (by rw [show Dv.valid S.claim ⟨2, 0, 0, 0, 0⟩ = true from rfl]; simp), if_neg (by simp [h])]
  rfl
theorem store_dead (S : Dv) (s : Int) (d : ByteArray) : (S.store s d).dead = S.dead := by
  unfold Dv.store
  cases S.pend with
  | nil => rfl
  | cons f r => dsimp only; split <;> rfl
theorem write_dead (S : Dv) (t s : Int) (d : ByteArray) : (S.write t s d).2.dead = S.dead := by
  unfold Dv.write
  repeat' split
  all_goals first | rfl | exact store_dead _ _ _
theorem fence_dead (S : Dv) (t : Int) : (S.fence t).2.dead = S.dead := by
  unfold Dv.fence
  repeat' split
  all_goals rfl
theorem inject_dead (S : Dv) (f : Flt) (h : f.kind ≠ 3) : (S.inject f).2.dead = S.dead := by
  unfold Dv.inject
  repeat' split
  all_goals first | rfl | skip
  show (S.happen f).dead = S.dead
  unfold Dv.happen
  rw [if_neg h]
  repeat' split
  all_goals rfl
theorem step_dead (S : Dv) (x : Opr) (h : x.kind ≠ 5 ∨ x.fault.kind ≠ 3) : (S.step x).dead = S.dead := by
  unfold Dv.step
  by_cases h1 : x.kind = 1
  · rw [if_pos h1]; exact write_dead _ _ _ _
  rw [if_neg h1]
  by_cases h3 : x.kind = 3
  · rw [if_pos h3]; exact write_dead _ _ _ _
  rw [if_neg h3]
  by_cases h4 : x.kind = 4
  · rw [if_pos h4]; exact fence_dead _ _
  rw [if_neg h4]
  by_cases h5 : x.kind = 5
  · rw [if_pos h5]
    rcases h with h | h
    · exact absurd h5 h
    · exact inject_dead _ _ h
  rw [if_neg h5]
theorem platters_same {S T : Dv} (h1 : S.dead = T.dead) (h2 : S.secs = T.secs) : S.platters = T.platters := by unfold Dv.platters; rw [h1, h2]

/-- Strings that were taken once stay so, whatever becomes of the drive. -/
structure Was (w : World) (own o : Own) (v : Value) (l : List ByteArray) : Prop where
  texts : Texts w own v l
  ap : Apart own o
  un : Under w own
theorem Was.then {w w' : World} {own o : Own} {v : Value} {l : List ByteArray} (h : Was w own o v l) (hb : Below w.heap.size w w') : Was w' own o v l := ⟨OwnSl.below h.texts hb, h.ap, h.un.mv hb.size⟩
theorem Was.step {w w' : World} {own o : Own} {v : Value} {l : List ByteArray} (h : Was w own o v l) (hf : Fr o w w') : Was w' own (Grow o w w') v l :=
  ⟨OwnSl.fr h.texts hf h.ap, (hf.mv.apart h.un h.ap.symm).symm, h.un.mv hf.size⟩
theorem Was.keep {w w' : World} {own o : Own} {v : Value} {l : List ByteArray} (h : Was w own o v l) (hf : Fr o w w') : Was w' own o v l := ⟨OwnSl.fr h.texts hf h.ap, h.ap, h.un.mv hf.size⟩
/-- A drive of a pair, and what its platters once were. -/
structure Solo2 (w0 : World) (q a b : Nat) (S : Dv) (own : Own) (v : Value) (l : List ByteArray) (w : World) (o : Own) : Prop where
  solo : Solo w0 q a b S w o
  was : Was w own o v l
theorem Solo2.then {w0 w w' : World} {q a b : Nat} {S : Dv} {own o : Own} {v : Value} {l : List ByteArray} (h : Solo2 w0 q a b S own v l w o) (hb : Below w.heap.size w w') : Solo2 w0 q a b S own v l w' o := ⟨h.solo.then hb, h.was.then hb⟩
theorem Solo2.step {w0 w w' : World} {q a b : Nat} {S T : Dv} {own o : Own} {v : Value} {l : List ByteArray} (h : Solo2 w0 q a b S own v l w o) (hd : Drv w' (Grow o w w') a T) (hf : Fr o w w') (hT : T.Ok) : ∃ o', Solo2 w0 q a b T own v l w' o' :=
  ⟨_, ⟨hd, hT, hf.mv.above h.solo.above h.solo.below.size, (fun e => e.elim h.solo.nq (fun e => by have := h.solo.box.lt; omega)), h.solo.box.fr hf h.solo.nq, h.solo.below.trans (hf.below h.solo.above h.solo.below.size)⟩, h.was.step hf⟩
theorem Solo2.keep {w0 w w' : World} {q a b : Nat} {S T : Dv} {own o : Own} {v : Value} {l : List ByteArray} (h : Solo2 w0 q a b S own v l w o) (hd : Drv w' o a T) (hf : Fr o w w') (hT : T.Ok) : ∃ o', Solo2 w0 q a b T own v l w' o' := h.step (hd.growTo hf h.solo.drv.under) hf hT
theorem Solo2.same {w0 w w' : World} {q a b : Nat} {S T : Dv} {own o : Own} {v : Value} {l : List ByteArray} (h : Solo2 w0 q a b S own v l w o) (hd : Drv w' o a T) (hf : Fr o w w') (hT : T.Ok) : Solo2 w0 q a b T own v l w' o :=
  ⟨⟨hd, hT, h.solo.above, h.solo.nq, h.solo.box.fr hf h.solo.nq, h.solo.below.trans (hf.below h.solo.above h.solo.below.size)⟩, h.was.keep hf⟩
theorem Solo.was {w0 w w' : World} {q a b : Nat} {S : Dv} {o : Own} {v : Value} {l : List ByteArray} (h : Solo w0 q a b S w o) (ht : Texts w' (Grow NoOwn w w') v l) (hb : Below w.heap.size w w') : Solo2 w0 q a b S (Grow NoOwn w w') v l w' o :=
  ⟨h.then hb, ⟨ht, fun k e1 e2 => by
    have := h.drv.under k e2
    rcases e1 with e1 | e1
    · exact e1
    · omega, fun k e => by
    rcases e with e | e
    · exact e.elim
    · exact e.2⟩⟩
theorem field_term (x y : Bool) (t : Int) (W : World) : (Instr.field 45 (.agg #[.bool x, .bool y, .int .i64 t]) 2).run Try.prog W = .ok (.int .i64 t) W := by kernel_rfl
/-- A call lies in block q. -/
def OpBox (w : World) (q : Nat) (x : Opr) : Prop := w.heap[q]? = some (.cells (oprCells x).toArray 60 (0, 0))
theorem OpBox.lt {w : World} {q : Nat} {x : Opr} (h : OpBox w q x) : q < w.heap.size := (Array.getElem?_eq_some_iff.1 h).1
theorem OpBox.below {w w' : World} {q : Nat} {x : Opr} (h : OpBox w q x) (hb : Below w.heap.size w w') : OpBox w' q x := (hb.block q h.lt).trans h
theorem OpBox.fr {w w' : World} {o : Own} {q : Nat} {x : Opr} (h : OpBox w q x) (hf : Fr o w w') (hn : ¬ o q) : OpBox w' q x := (hf.block q h.lt hn).trans h
theorem OpBox.cells {w : World} {q : Nat} {x : Opr} (h : OpBox w q x) : w.cell? ⟨q, 1, none⟩ = some (.int .i64 x.term) ∧ w.cell? ⟨q, 2, none⟩ = some (.int .i64 x.slot) ∧ w.cell? ⟨q, 3, none⟩ = some (.string x.data) := ⟨cell_block h 1, cell_block h 2, cell_block h 3⟩
abbrev OpCells (w' : World) (bb off : Nat) (x : Opr) : Prop := w'.cell? ⟨bb, off, none⟩ = some (.int .i64 x.kind) ∧ w'.cell? ⟨bb, off + 1, none⟩ = some (.int .i64 x.term) ∧ w'.cell? ⟨bb, off + 2, none⟩ = some (.int .i64 x.slot) ∧ w'.cell? ⟨bb, off + 3, none⟩ = some (.string x.data) ∧
  w'.cell? ⟨bb, off + 4, none⟩ = some (.int .i64 x.fault.kind) ∧ w'.cell? ⟨bb, off + 5, none⟩ = some (.int .i64 x.fault.slot) ∧ w'.cell? ⟨bb, off + 6, none⟩ = some (.int .i64 x.fault.bit) ∧ w'.cell? ⟨bb, off + 7, none⟩ = some (.int .i64 x.fault.mask) ∧ w'.cell? ⟨bb, off + 8, none⟩ = some (.int .i64 x.fault.dest)

set_option maxRecDepth 100000 in
set_option maxHeartbeats 8000000 in
theorem law_sleeps (c r : Int) (v v2 : Value) (l l2 : List Opr) (w : World) (hl : OpsAt w v l) (hl2 : OpsAt w v2 l2) :
    Calls Try.prog 11 #[.int .i64 c, .int .i64 r, v, v2] w fun e w' => e = .returned (.bool true) ∧ Below w.heap.size w w' := by
  have HL := hid hl
  have HL2 := hid hl2
  obtain ⟨_, hm, A, cap, rfl, hc⟩ := hl
  obtain ⟨_, hm2, A2, cap2, rfl, hc2⟩ := hl2
  have HC := hid hc
  have HC2 := hid hc2
  unfold maxLen at hm hm2
  clear hc hc2
  go_enter Try.func11, Try.ntmps11
  go_wp2_with fail
  refine (light_any HL.out).mono ?_
  rintro e w1 ⟨lr, rfl, hlr, rfl⟩
  cases lr
  case false =>
    go_wp2_with (go_at_call 16; refine (awake26 _).mono ?_; rintro e w2 ⟨rfl, hb2⟩)
    go_ret
    exact ⟨rfl, hb2⟩
  case true =>
    have hl60 : l.length ≤ 60 := hlr rfl
    clear hlr HL
    go_wp2_with fail
    refine (light_any HL2.out).mono ?_
    rintro e w1 ⟨lr, rfl, hlr, rfl⟩
    cases lr
    case false =>
      go_wp2_with (go_at_call 16; refine (awake26 _).mono ?_; rintro e w2 ⟨rfl, hb2⟩)
      go_ret
      exact ⟨rfl, hb2⟩
    case true =>
      have hl61 : l2.length ≤ 60 := hlr rfl
      clear hlr HL2
      go_wp2_with fail
      refine (make_any c r _).mono ?_
      rintro e w1 ⟨a, b, o1, o2, rfl, hbo, hab, hb1⟩
      have hb2 : Below w1.heap.size w1 (w1.alloc (.cells #[.pointer (some ⟨a, 0, none⟩), .pointer (some ⟨b, 0, none⟩)] 37)) := (Below.refl _ _).alloc (Nat.le_refl _) _
      have hbx : PairBox (w1.alloc (.cells #[.pointer (some ⟨a, 0, none⟩), .pointer (some ⟨b, 0, none⟩)] 37)) w1.heap.size a b := heap_alloc_new w1 _
      obtain ⟨m1, m2, m3, _⟩ := mk_ok c r
      have hgm : Game w w1.heap.size a b 0 (newDv (mkC c) (mkR c r)) (w1.alloc (.cells #[.pointer (some ⟨a, 0, none⟩), .pointer (some ⟨b, 0, none⟩)] 37)) o1 o2 :=
        ⟨hbo.below hb2, newDv_ok _ _ m1 m2 m3, Nat.le_refl _, hab, fun e => by have := hbo.under _ e; omega, hbx, hb1.trans (hb2.mono hb1.size)⟩
      have HG := hid hgm
      have HDD := hid (show (newDv (mkC c) (mkR c r)).dead = false from rfl)
      clear hgm hbx hb2 hbo hab hb1 m1 m2 m3
      go_upto_region 4 with fail
      generalize w1.alloc (.cells #[.pointer (some ⟨a, 0, none⟩), .pointer (some ⟨b, 0, none⟩)] 37) = w2 at *
      generalize w1.heap.size = q at *
      generalize newDv (mkC c) (mkR c r) = S0 at *
      go_wp2_with fail
      go_loopw [11] (fun i wr => ∃ (k : Nat) (S : Dv) (p1 p2 : Own), k ≤ l.length ∧ i = .int .i64 k ∧ Hid (Game w q a b k S wr p1 p2) ∧ Hid (S.dead = false)) (fun i _ => (l.length - intOf i).toNat)
      case atStart => exact ⟨0, S0, o1, o2, Nat.zero_le _, rfl, HG, HDD⟩
      case round =>
        clear HG HDD
        obtain ⟨k, S, p1, p2, hk, rfl, HG, HDD⟩ := hrel
        by_cases hlt : k < l.length
        · obtain ⟨bb, off, rfl, hbl, hcell⟩ := HC.out (by omega)
          have HCC := hid (fun (W : World) (hW : Below w.heap.size w W) (j : Nat) (u : Value) (hu : (l.flatMap oprCells)[j]? = some u) => (hW.cell (p := ⟨bb, off + j, none⟩) hbl).trans (hcell j u hu))
          clear hcell
          have hx0 : (0 : Int) ≤ (k : Int) := by omega
          have hx1 : (k : Int) < (l.length : Int) := by omega
          obtain ⟨d0, d1, d2, d3, d4, d5, d6, d7, d8⟩ := OpsAt.cells (HCC.out wr HG.out.below) k hlt
          have hkind : ((l[k].kind != 5) = true) ∨ ((l[k].kind != 5) = false ∧ (l[k].fault.kind != 3) = true) ∨ ((l[k].kind != 5) = false ∧ (l[k].fault.kind != 3) = false) := by
            cases (l[k].kind != 5) <;> cases (l[k].fault.kind != 3) <;> simp
          have hgood : ((l[k].kind != 5) = true) ∨ ((l[k].fault.kind != 3) = true) → l[k].kind ≠ 5 ∨ l[k].fault.kind ≠ 3 := fun h => by
            rcases h with h | h
            · exact .inl (by simpa using h)
            · exact .inr (by simpa using h)
          have HGOOD := hid hgood
          clear hgood
          rcases hkind with hk5 | ⟨hk5, hk3⟩ | ⟨hk5, hk3⟩
          case inr.inr =>
            clear HGOOD
            go_wp2
            go_roundw
            case rel => exact ⟨k + 1, S, p1, p2, by omega, by go_num, hid (HG.out.le (Nat.le_succ k)), HDD⟩
            case measure => (simp [intOf]; try omega)
          case inl =>
            have HDO := hid (HGOOD.out (.inl hk5))
            clear HGOOD
            go_upto_region 10 with fail
            have HGD := hid (HG.out.then (w' := wr.drew) ((Below.refl _ _).drew))
            clear HG d0 d1 d2 d3 d4 d5 d6 d7 d8
            go_region_held3 (fun w' => w'.cell? ⟨q, 0, none⟩ = some (.pointer (some ⟨a, 0, none⟩)) ∧ w'.cell? ⟨q, 1, none⟩ = some (.pointer (some ⟨b, 0, none⟩)) ∧ w'.cell? ⟨bb, off + k * 9, none⟩ = some (.int .i64 l[k].kind) ∧ w'.cell? ⟨bb, off + k * 9 + 1, none⟩ = some (.int .i64 l[k].term) ∧ w'.cell? ⟨bb, off + k * 9 + 2, none⟩ = some (.int .i64 l[k].slot) ∧ w'.cell? ⟨bb, off + k * 9 + 3, none⟩ = some (.string l[k].data) ∧ w'.cell? ⟨bb, off + k * 9 + 4, none⟩ = some (.int .i64 l[k].fault.kind) ∧ w'.cell? ⟨bb, off + k * 9 + 5, none⟩ = some (.int .i64 l[k].fault.slot) ∧ w'.cell? ⟨bb, off + k * 9 + 6, none⟩ = some (.int .i64 l[k].fault.bit) ∧ w'.cell? ⟨bb, off + k * 9 + 7, none⟩ = some (.int .i64 l[k].fault.mask) ∧ w'.cell? ⟨bb, off + k * 9 + 8, none⟩ = some (.int .i64 l[k].fault.dest))
              (exact ⟨HGD.out.box.cells.1, HGD.out.box.cells.2, OpsAt.cells (HCC.out _ HGD.out.below) k hlt⟩)
              ((first
                | (go_at_call 31; refine (do_any HGD.out.both HGD.out.ok (by have := HGD.out.few; omega) l[k]).mono ?_; rintro e wx ⟨rfl, hmv⟩; obtain ⟨s1, s2, hg2⟩ := HGD.out.do_ l[k] hmv; replace HGD := hid hg2; clear hg2 hmv)))
            have HDD2 := hid ((step_dead S l[k] HDO.out).trans HDD.out)
            go_wp2
            go_roundw
            case rel => exact ⟨k + 1, _, _, _, by omega, by go_num, HGD, HDD2⟩
            case measure => (simp [intOf]; try omega)
          case inr.inl =>
            have HDO := hid (HGOOD.out (.inr hk3))
            clear HGOOD
            go_upto_region 10 with fail
            have HGD := hid (HG.out.then (w' := wr.drew) ((Below.refl _ _).drew))
            clear HG d0 d1 d2 d3 d4 d5 d6 d7 d8
            go_region_held3 (fun w' => w'.cell? ⟨q, 0, none⟩ = some (.pointer (some ⟨a, 0, none⟩)) ∧ w'.cell? ⟨q, 1, none⟩ = some (.pointer (some ⟨b, 0, none⟩)) ∧ w'.cell? ⟨bb, off + k * 9, none⟩ = some (.int .i64 l[k].kind) ∧ w'.cell? ⟨bb, off + k * 9 + 1, none⟩ = some (.int .i64 l[k].term) ∧ w'.cell? ⟨bb, off + k * 9 + 2, none⟩ = some (.int .i64 l[k].slot) ∧ w'.cell? ⟨bb, off + k * 9 + 3, none⟩ = some (.string l[k].data) ∧ w'.cell? ⟨bb, off + k * 9 + 4, none⟩ = some (.int .i64 l[k].fault.kind) ∧ w'.cell? ⟨bb, off + k * 9 + 5, none⟩ = some (.int .i64 l[k].fault.slot) ∧ w'.cell? ⟨bb, off + k * 9 + 6, none⟩ = some (.int .i64 l[k].fault.bit) ∧ w'.cell? ⟨bb, off + k * 9 + 7, none⟩ = some (.int .i64 l[k].fault.mask) ∧ w'.cell? ⟨bb, off + k * 9 + 8, none⟩ = some (.int .i64 l[k].fault.dest))
              (exact ⟨HGD.out.box.cells.1, HGD.out.box.cells.2, OpsAt.cells (HCC.out _ HGD.out.below) k hlt⟩)
              ((first
                | (go_at_call 31; refine (do_any HGD.out.both HGD.out.ok (by have := HGD.out.few; omega) l[k]).mono ?_; rintro e wx ⟨rfl, hmv⟩; obtain ⟨s1, s2, hg2⟩ := HGD.out.do_ l[k] hmv; replace HGD := hid hg2; clear hg2 hmv)))
            have HDD2 := hid ((step_dead S l[k] HDO.out).trans HDD.out)
            go_wp2
            go_roundw
            case rel => exact ⟨k + 1, _, _, _, by omega, by go_num, HGD, HDD2⟩
            case measure => (simp [intOf]; try omega)
        · obtain rfl : k = l.length := by omega
          have HGS := hid (HG.out.solo.then (w' := wr.drew) ((Below.refl _ _).drew))
          have HFEW := hid (Nat.le_trans HG.out.few (Nat.le_trans hl60 (show 60 ≤ 1000000 by decide)))
          clear HG
          have hfld := fun W => field_term S.online S.dead S.term W
          go_upto_region 11 with fail
          go_region_held3 (fun w' => w'.cell? ⟨q, 0, none⟩ = some (.pointer (some ⟨a, 0, none⟩)) ∧ w'.cell? ⟨q, 1, none⟩ = some (.pointer (some ⟨b, 0, none⟩)))
            (first | exact ⟨HGS.out.box.cells.1, HGS.out.box.cells.2⟩ | exact ⟨HG2.out.solo.box.cells.1, HG2.out.solo.box.cells.2⟩)
            ((first
              | (go_at_call 22; refine (platters_e HGS.out.drv HGS.out.ok).mono ?_; rintro e wx ⟨vw, rfl, htw, hby⟩; have HG2 := hid (HGS.out.was htw hby); clear HGS htw hby)
              | (go_at_call 25; refine (status_e (S := S) (o := p1) (by first | exact HGS.out.drv | exact HG2.out.solo.drv) (by first | exact HGS.out.ok | exact HG2.out.solo.ok)).mono ?_; rintro e wx ⟨rfl, hby⟩; (first | replace HGS := hid (HGS.out.then hby) | replace HG2 := hid (HG2.out.then hby)); clear hby)))
          all_goals
            go_upto_region 12 with fail
            obtain ⟨p0, p1⟩ := HG2.out.solo.box.cells
            have hoff0 := vanish_eq HDD.out
            have hret0 := return_eq HDD.out
            have HV := hid hoff0
            have HRT := hid hret0
            have HON := hid (show Dv.online { S with off := true } = false by unfold Dv.online; simp)
            have HON2 := hid (show Dv.online { S with off := false } = true by unfold Dv.online; simp [HDD.out])
            have HOK1 := hid (show Dv.Ok { S with off := true } from HG2.out.solo.ok.same rfl rfl (fun _ e => e))
            have HOK2 := hid (show Dv.Ok { S with off := false } from HG2.out.solo.ok.same rfl rfl (fun _ e => e))
            have HPS := hid (show Dv.platters { S with off := false } = S.platters from platters_same rfl rfl)
            have HFEW1 := hid (show (Dv.pend { S with off := true }).length ≤ 1000000 from HFEW.out)
            have HT2 := hid (show Dv.dead { S with off := false } = false ∧ Dv.term { S with off := false } = S.term from ⟨HDD.out, rfl⟩)
            clear hoff0 hret0 hfld
            generalize ({ S with off := true } : Dv) = S1 at *
            generalize ({ S with off := false } : Dv) = S2 at *
            go_wp2_with fail
            refine (inject_e HG2.out.solo.drv HG2.out.solo.ok ⟨1, 0, 0, 0, 0⟩ HFEW.out).mono ?_
            rintro e w5 ⟨rfl, hd5, hf5⟩
            rw [HV.out] at hd5
            rw [HV.out]
            obtain ⟨o5, hg5⟩ := HG2.out.step hd5 hf5 HOK1.out
            have HG5 := hid hg5
            clear hd5 hf5 hg5 HG2 p0 p1
            go_wp2_with fail
            go_loopw [14] (fun i wr => ∃ (k : Nat) (o : Own), k ≤ l2.length ∧ i = .int .i64 k ∧ Hid (Solo2 w q a b S1 _ _ S.platters wr o)) (fun i _ => (l2.length - intOf i).toNat)
            case atStart => exact ⟨0, o5, Nat.zero_le _, rfl, HG5⟩
            case round =>
              clear HG5
              obtain ⟨k, o, hk, rfl, HG⟩ := hrel
              by_cases hlt : k < l2.length
              · obtain ⟨bb, off, rfl, hbl, hcell⟩ := HC2.out (by omega)
                have HCC := hid (fun (W : World) (hW : Below w.heap.size w W) (j : Nat) (u : Value) (hu : (l2.flatMap oprCells)[j]? = some u) => (hW.cell (p := ⟨bb, off + j, none⟩) hbl).trans (hcell j u hu))
                clear hcell
                obtain ⟨d0, d1, d2, d3, d4, d5, d6, d7, d8⟩ := OpsAt.cells (HCC.out _ HG.out.solo.below) k hlt
                go_upto_region 17 with fail
                have hb6 : Below wr.heap.size wr (wr.alloc (.cells #[.int .i64 l2[k].kind, .int .i64 l2[k].term, .int .i64 l2[k].slot, .string l2[k].data, .int .i64 l2[k].fault.kind, .int .i64 l2[k].fault.slot, .int .i64 l2[k].fault.bit, .int .i64 l2[k].fault.mask, .int .i64 l2[k].fault.dest] 60)) := (Below.refl _ _).alloc (Nat.le_refl _) _
                have hbx : OpBox (wr.alloc (.cells #[.int .i64 l2[k].kind, .int .i64 l2[k].term, .int .i64 l2[k].slot, .string l2[k].data, .int .i64 l2[k].fault.kind, .int .i64 l2[k].fault.slot, .int .i64 l2[k].fault.bit, .int .i64 l2[k].fault.mask, .int .i64 l2[k].fault.dest] 60)) wr.heap.size l2[k] := heap_alloc_new wr _
                have hnb : ¬ o wr.heap.size := fun e => by have := HG.out.solo.drv.under _ e; omega
                have HG6 := hid (HG.out.then hb6)
                have HBX := hid hbx
                clear HG hb6 hbx d0 d1 d2 d3 d4 d5 d6 d7 d8
                generalize wr.alloc (.cells #[.int .i64 l2[k].kind, .int .i64 l2[k].term, .int .i64 l2[k].slot, .string l2[k].data, .int .i64 l2[k].fault.kind, .int .i64 l2[k].fault.slot, .int .i64 l2[k].fault.bit, .int .i64 l2[k].fault.mask, .int .i64 l2[k].fault.dest] 60) = w6 at *
                generalize wr.heap.size = qb at *
                rename Hid (Solo2 _ _ _ _ _ _ _ _ _ _) => HG
                obtain ⟨p0, p1⟩ := HG.out.solo.box.cells
                obtain ⟨t1, t2, t3⟩ := HBX.out.cells
                go_wp2_with fail
                refine (read_b HG.out.solo.drv HG.out.solo.ok l2[k].slot).mono ?_
                rintro e w9 ⟨rfl, hb9⟩
                rw [off_read HON.out]
                have HB9 := hid (HBX.out.below hb9)
                have HG9 := hid (HG.out.then hb9)
                clear HBX HG t1 t2 t3 hb9 p0 p1
                obtain ⟨p0, p1⟩ := HG9.out.solo.box.cells
                obtain ⟨t1, t2, t3⟩ := HB9.out.cells
                rename Hid (Solo2 _ _ _ _ _ _ _ _ _ _) => HG
                rename Hid (OpBox _ _ _) => HBX
                go_wp2_with fail
                refine (write_e HG.out.solo.drv HG.out.solo.ok l2[k].term l2[k].slot l2[k].data).mono ?_
                rintro e w9 ⟨rfl, hd9, hf9⟩
                rw [off_write HON.out] at hd9
                rw [off_write HON.out]
                have HB9 := hid (HBX.out.fr hf9 hnb)
                have HG9 := hid (HG.out.same hd9 hf9 HOK1.out)
                clear HBX HG t1 t2 t3 hd9 hf9 p0 p1
                obtain ⟨p0, p1⟩ := HG9.out.solo.box.cells
                obtain ⟨t1, t2, t3⟩ := HB9.out.cells
                rename Hid (Solo2 _ _ _ _ _ _ _ _ _ _) => HG
                rename Hid (OpBox _ _ _) => HBX
                go_wp2_with fail
                refine (erase_e HG.out.solo.drv HG.out.solo.ok l2[k].term l2[k].slot).mono ?_
                rintro e w9 ⟨rfl, hd9, hf9⟩
                rw [off_write HON.out] at hd9
                rw [off_write HON.out]
                have HB9 := hid (HBX.out.fr hf9 hnb)
                have HG9 := hid (HG.out.same hd9 hf9 HOK1.out)
                clear HBX HG t1 t2 t3 hd9 hf9 p0 p1
                obtain ⟨p0, p1⟩ := HG9.out.solo.box.cells
                obtain ⟨t1, t2, t3⟩ := HB9.out.cells
                rename Hid (Solo2 _ _ _ _ _ _ _ _ _ _) => HG
                rename Hid (OpBox _ _ _) => HBX
                go_wp2_with fail
                refine (fence_e HG.out.solo.drv HG.out.solo.ok l2[k].term).mono ?_
                rintro e w9 ⟨rfl, hd9, hf9⟩
                rw [off_fence HON.out] at hd9
                rw [off_fence HON.out]
                have HB9 := hid (HBX.out.fr hf9 hnb)
                have HG9 := hid (HG.out.same hd9 hf9 HOK1.out)
                clear HBX HG t1 t2 t3 hd9 hf9 p0 p1
                obtain ⟨p0, p1⟩ := HG9.out.solo.box.cells
                obtain ⟨t1, t2, t3⟩ := HB9.out.cells
                rename Hid (Solo2 _ _ _ _ _ _ _ _ _ _) => HG
                rename Hid (OpBox _ _ _) => HBX
                clear t1 t2 t3 p0 p1 HBX
                go_wp2
                go_roundw
                case rel => exact ⟨k + 1, _, by omega, by go_num, HG⟩
                case measure => (simp [intOf]; try omega)
              · obtain rfl : k = l2.length := by omega
                obtain ⟨p0, p1⟩ := HG.out.solo.box.cells
                go_wp2_with fail
                refine (inject_e HG.out.solo.drv HG.out.solo.ok ⟨2, 0, 0, 0, 0⟩ HFEW1.out).mono ?_
                rintro e w6 ⟨rfl, hd6, hf6⟩
                rw [HRT.out] at hd6
                rw [HRT.out]
                obtain ⟨o6, hg6⟩ := HG.out.step hd6 hf6 HOK2.out
                have HG6 := hid hg6
                clear hd6 hf6 hg6 HG p0 p1
                obtain ⟨p0, p1⟩ := HG6.out.solo.box.cells
                go_wp2_with fail
                refine (status_e HG6.out.solo.drv HG6.out.solo.ok).mono ?_
                rintro e w7 ⟨rfl, hb7⟩
                rw [HON2.out, HT2.out.1, HT2.out.2]
                have HG7 := hid (HG6.out.then hb7)
                clear hb7 HG6 p0 p1
                go_upto_region 22 with fail
                have hb8 : Below w7.heap.size w7 (w7.alloc (.cells #[.bool true, .bool false, .int .i64 S.term] 45)) := (Below.refl _ _).alloc (Nat.le_refl _) _
                have hv8 := vals_new w7 [.bool true, .bool false, .int .i64 S.term] 45
                have HG8 := hid (HG7.out.then hb8)
                clear HG7 hb8
                generalize w7.alloc (.cells #[.bool true, .bool false, .int .i64 S.term] 45) = w8 at *
                generalize w7.heap.size = qs at *
                have HV8 := hid hv8
                clear hv8
                go_wp2_with fail
                refine (awake26 _).mono ?_
                rintro e w9 ⟨rfl, hb9⟩
                have HV9 := hid (HV8.out.below hb9 HV8.out.lt)
                have HG9 := hid (HG8.out.then hb9)
                clear hb9 HV8 HG8
                have t0 := HV9.out.cell 0 (by simp)
                have t1 := HV9.out.cell 1 (by simp)
                have t2 := HV9.out.cell 2 (by simp)
                simp only [List.getElem_cons_succ, List.getElem_cons_zero] at t0 t1 t2
                obtain ⟨p0, p1⟩ := HG9.out.solo.box.cells
                go_wp2_with fail
                refine (platters_e HG9.out.solo.drv HG9.out.solo.ok).mono ?_
                rintro e wA ⟨vz, rfl, htz, hbA⟩
                rw [HPS.out] at htz
                have HTZ := hid htz
                have HGA := hid (HG9.out.then hbA)
                clear htz hbA HG9 p0 p1 t0 t1 t2 HV9
                go_wp2_with fail
                refine (same_b HGA.out.was.texts HTZ.out true (by simp)).mono ?_
                rintro e wB ⟨rfl, hbB⟩
                have HW := hid (HGA.out.then hbB).solo.below
                clear hbB HGA HTZ
                go_wp2
                go_ret
                exact ⟨rfl, HW.out⟩
end Go.Proofs.Ytiodfnjblimmbaa
