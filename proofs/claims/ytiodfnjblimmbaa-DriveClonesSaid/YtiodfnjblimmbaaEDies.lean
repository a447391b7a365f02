/- DriveDies. -/
import Derived.Test.YtiodfnjblimmbaaEPlays
namespace Go.Proofs.Ytiodfnjblimmbaa
open Go Go.RowKit Go.Sort

/-- All that is known of one drive of a pair in the midst of a law that began in world w0. -/
structure Solo (w0 : World) (q a b : Nat) (S : Dv) (w : World) (o : Own) : Prop where
  drv : Drv w o a S
  ok : S.Ok
  above : Above w0.heap.size o
  nq : ¬ o q
  box : PairBox w q a b
  below : Below w0.heap.size w0 w
theorem Solo.then {w0 w w' : World} {q a b : Nat} {S : Dv} {o : Own} (h : Solo w0 q a b S w o) (hb : Below w.heap.size w w') : Solo w0 q a b S w' o :=
  ⟨h.drv.below hb, h.ok, h.above, h.nq, h.box.below hb, h.below.trans (hb.mono h.below.size)⟩
theorem Solo.drawn {w0 w : World} {q a b : Nat} {S : Dv} {o : Own} (h : Solo w0 q a b S w o) (n : Nat) : Solo w0 q a b S (w.drewN n) o := h.then (below_drew w n)
theorem Solo.step {w0 w w' : World} {q a b : Nat} {S T : Dv} {o : Own} (h : Solo w0 q a b S w o) (hd : Drv w' (Grow o w w') a T) (hf : Fr o w w') (hT : T.Ok) : ∃ o', Solo w0 q a b T w' o' :=
  ⟨_, hd, hT, hf.mv.above h.above h.below.size, (fun e => e.elim h.nq (fun e => by have := h.box.lt; omega)), h.box.fr hf h.nq, h.below.trans (hf.below h.above h.below.size)⟩
theorem Solo.keep {w0 w w' : World} {q a b : Nat} {S T : Dv} {o : Own} (h : Solo w0 q a b S w o) (hd : Drv w' o a T) (hf : Fr o w w') (hT : T.Ok) : ∃ o', Solo w0 q a b T w' o' := h.step (hd.growTo hf h.drv.under) hf hT
theorem Game.solo {w0 w : World} {q a b n : Nat} {S : Dv} {o1 o2 : Own} (h : Game w0 q a b n S w o1 o2) : Solo w0 q a b S w o1 :=
  ⟨h.both.drv, h.ok, fun k e => h.above k (.inl e), fun e => h.nq (.inl e), h.box, h.below⟩
theorem dead_read {S : Dv} (h : S.dead = true) (s : Int) : S.read s = (⟨#[]⟩, 105) := by
  unfold Dv.read Dv.online; rw [h]; rfl
theorem dead_write {S : Dv} (h : S.dead = true) (t s : Int) (d : ByteArray) : S.write t s d = (105, S) := by
  unfold Dv.write Dv.online; rw [h]; rfl
theorem dead_inject {S : Dv} (h : S.dead = true) (f : Flt) : (S.inject f).2 = S := by
  unfold Dv.inject
  split <;> simp [h]
theorem dead_platters {S : Dv} (h : S.dead = true) : S.platters = [] := by unfold Dv.platters; rw [if_pos h]
theorem new_die (c : Int) (r : Nat) : (newDv c r).inject ⟨3, 0, 0, 0, 0⟩ = (0, (newDv c r).die) := rfl

theorem read_b {w : World} {o : Own} {a : Nat} {S : Dv} (h : Drv w o a S) (hS : S.Ok) (s : Int) : Calls Try.prog 19 #[.pointer (some ⟨a, 0, none⟩), .int .i64 s] w fun e w' => e = .returned (.tuple #[.string (S.read s).1, .int .i64 (S.read s).2]) ∧ Below w.heap.size w w' :=
  (read_e h hS s).mono fun _ _ ⟨he, n, hw⟩ => ⟨he, by rw [hw]; exact below_drew _ n⟩
set_option maxRecDepth 100000 in
set_option maxHeartbeats 4000000 in
theorem law_dies (c r : Int) (v : Value) (l : List Opr) (w : World) (hl : OpsAt w v l) :
    Calls Try.prog 7 #[.int .i64 c, .int .i64 r, v] w fun e w' => e = .returned (.bool true) ∧ Below w.heap.size w w' := by
  have HL := hid hl
  obtain ⟨_, hm, A, cap, rfl, hc⟩ := hl
  have HC := hid hc
  unfold maxLen at hm
  clear hc
  go_enter Try.func7, Try.ntmps7
  go_wp2_with fail
  refine (light_any HL.out).mono ?_
  rintro e w1 ⟨lr, rfl, hlr, rfl⟩
  cases lr
  case false =>
    go_wp2_with (go_at_call 16; refine (awake26 _).mono ?_; rintro e w2 ⟨rfl, hb2⟩)
    go_ret
    exact ⟨rfl, hb2⟩
  case true =>
    have hl60 : l.length ≤ 60 := hlr rfl
    clear hlr HL
    go_wp2_with fail
    refine (make_any c r _).mono ?_
    rintro e w1 ⟨a, b, o1, o2, rfl, hbo, hab, hb1⟩
    have hb2 : Below w1.heap.size w1 (w1.alloc (.cells #[.pointer (some ⟨a, 0, none⟩), .pointer (some ⟨b, 0, none⟩)] 37)) := (Below.refl _ _).alloc (Nat.le_refl _) _
    have hbx : PairBox (w1.alloc (.cells #[.pointer (some ⟨a, 0, none⟩), .pointer (some ⟨b, 0, none⟩)] 37)) w1.heap.size a b := heap_alloc_new w1 _
    obtain ⟨m1, m2, m3, _⟩ := mk_ok c r
    have hgm : Game w w1.heap.size a b 0 (newDv (mkC c) (mkR c r)) (w1.alloc (.cells #[.pointer (some ⟨a, 0, none⟩), .pointer (some ⟨b, 0, none⟩)] 37)) o1 o2 :=
      ⟨hbo.below hb2, newDv_ok _ _ m1 m2 m3, Nat.le_refl _, hab, fun e => by have := hbo.under _ e; omega, hbx, hb1.trans (hb2.mono hb1.size)⟩
    have HG := hid hgm.solo
    have hdie := new_die (mkC c) (mkR c r)
    have hdok : (newDv (mkC c) (mkR c r)).die.Ok := by have := (newDv_ok _ _ m1 m2 m3).inject ⟨3, 0, 0, 0, 0⟩; rw [hdie] at this; exact this
    have HDIE := hid hdie
    have HDOK := hid hdok
    have HST := hid (show (newDv (mkC c) (mkR c r)).die.online = false ∧ (newDv (mkC c) (mkR c r)).die.dead = true ∧ (newDv (mkC c) (mkR c r)).die.term = 0 ∧ (newDv (mkC c) (mkR c r)).pend.length ≤ 1000000 ∧ (newDv (mkC c) (mkR c r)).die.pend.length ≤ 1000000 from ⟨rfl, rfl, rfl, Nat.zero_le _, Nat.zero_le _⟩)
    clear hgm hbx hb2 hbo hab hb1 m1 m2 m3 hdie hdok
    go_upto_region 4 with fail
    generalize w1.alloc (.cells #[.pointer (some ⟨a, 0, none⟩), .pointer (some ⟨b, 0, none⟩)] 37) = w2 at *
    generalize w1.heap.size = q at *
    generalize newDv (mkC c) (mkR c r) = S0 at *
    generalize S0.die = S at *
    obtain ⟨p0, p1⟩ := HG.out.box.cells
    go_wp2_with fail
    refine (inject_e HG.out.drv HG.out.ok ⟨3, 0, 0, 0, 0⟩ HST.out.2.2.2.1).mono ?_
    rintro e w3 ⟨rfl, hd3, hf3⟩
    rw [HDIE.out] at hd3
    rw [HDIE.out]
    obtain ⟨o3, hg3⟩ := HG.out.step hd3 hf3 HDOK.out
    have HG3 := hid hg3
    clear hd3 hf3 hg3 HG p0 p1
    go_wp2_with fail
    go_loopw [9] (fun i wr => ∃ (k : Nat) (o : Own), k ≤ l.length ∧ i = .int .i64 k ∧ Hid (Solo w q a b S wr o)) (fun i _ => (l.length - intOf i).toNat)
    case atStart => exact ⟨0, o3, Nat.zero_le _, rfl, HG3⟩
    case round =>
      clear HG3
      obtain ⟨k, o, hk, rfl, HG⟩ := hrel
      by_cases hlt : k < l.length
      · obtain ⟨bb, off, rfl, hbl, hcell⟩ := HC.out (by omega)
        have HCC := hid (fun (W : World) (hW : Below w.heap.size w W) (j : Nat) (u : Value) (hu : (l.flatMap oprCells)[j]? = some u) => (hW.cell (p := ⟨bb, off + j, none⟩) hbl).trans (hcell j u hu))
        clear hcell
        have hx0 : (0 : Int) ≤ (k : Int) := by omega
        have hx1 : (k : Int) < (l.length : Int) := by omega
        go_upto_region 9 with fail
        have HGD := hid (HG.out.then (w' := wr.drew) ((Below.refl _ _).drew))
        clear HG
        go_region_held3 (fun w' => w'.cell? ⟨q, 0, none⟩ = some (.pointer (some ⟨a, 0, none⟩)) ∧ w'.cell? ⟨q, 1, none⟩ = some (.pointer (some ⟨b, 0, none⟩)) ∧ w'.cell? ⟨bb, off + k * 9, none⟩ = some (.int .i64 l[k].kind) ∧ w'.cell? ⟨bb, off + k * 9 + 1, none⟩ = some (.int .i64 l[k].term) ∧ w'.cell? ⟨bb, off + k * 9 + 2, none⟩ = some (.int .i64 l[k].slot) ∧ w'.cell? ⟨bb, off + k * 9 + 3, none⟩ = some (.string l[k].data) ∧
            w'.cell? ⟨bb, off + k * 9 + 4, none⟩ = some (.int .i64 l[k].fault.kind) ∧ w'.cell? ⟨bb, off + k * 9 + 5, none⟩ = some (.int .i64 l[k].fault.slot) ∧ w'.cell? ⟨bb, off + k * 9 + 6, none⟩ = some (.int .i64 l[k].fault.bit) ∧ w'.cell? ⟨bb, off + k * 9 + 7, none⟩ = some (.int .i64 l[k].fault.mask) ∧ w'.cell? ⟨bb, off + k * 9 + 8, none⟩ = some (.int .i64 l[k].fault.dest))
          (exact ⟨HGD.out.box.cells.1, HGD.out.box.cells.2, OpsAt.cells (HCC.out _ HGD.out.below) k hlt⟩)
          ((first
            | (go_at_call 26; refine (inject_e HGD.out.drv HGD.out.ok l[k].fault HST.out.2.2.2.2).mono ?_; rintro e wx ⟨rfl, hd4, hf4⟩; rw [dead_inject HST.out.2.1] at hd4; obtain ⟨o4, hg4⟩ := HGD.out.step hd4 hf4 HDOK.out; replace HGD := hid hg4; clear hg4 hd4 hf4)))
        go_upto_region 10 with fail
        rename World => wi
        have HGE := hid (HGD.out.then (w' := wi.drew) ((Below.refl _ _).drew))
        clear HGD
        go_region_held3 (fun w' => w'.cell? ⟨q, 0, none⟩ = some (.pointer (some ⟨a, 0, none⟩)) ∧ w'.cell? ⟨q, 1, none⟩ = some (.pointer (some ⟨b, 0, none⟩)) ∧ w'.cell? ⟨bb, off + k * 9, none⟩ = some (.int .i64 l[k].kind) ∧ w'.cell? ⟨bb, off + k * 9 + 1, none⟩ = some (.int .i64 l[k].term) ∧ w'.cell? ⟨bb, off + k * 9 + 2, none⟩ = some (.int .i64 l[k].slot) ∧ w'.cell? ⟨bb, off + k * 9 + 3, none⟩ = some (.string l[k].data) ∧
            w'.cell? ⟨bb, off + k * 9 + 4, none⟩ = some (.int .i64 l[k].fault.kind) ∧ w'.cell? ⟨bb, off + k * 9 + 5, none⟩ = some (.int .i64 l[k].fault.slot) ∧ w'.cell? ⟨bb, off + k * 9 + 6, none⟩ = some (.int .i64 l[k].fault.bit) ∧ w'.cell? ⟨bb, off + k * 9 + 7, none⟩ = some (.int .i64 l[k].fault.mask) ∧ w'.cell? ⟨bb, off + k * 9 + 8, none⟩ = some (.int .i64 l[k].fault.dest))
          (exact ⟨HGE.out.box.cells.1, HGE.out.box.cells.2, OpsAt.cells (HCC.out _ HGE.out.below) k hlt⟩)
          ((first
            | (go_at_call 19; refine (read_b HGE.out.drv HGE.out.ok l[k].slot).mono ?_; rintro e wx ⟨rfl, hby⟩; rw [dead_read HST.out.2.1]; replace HGE := hid (HGE.out.then hby); clear hby)))
        go_upto_region 11 with fail
        rename World => wj
        have HGF := hid (HGE.out.then (w' := wj.drew) ((Below.refl _ _).drew))
        clear HGE
        go_region_held3 (fun w' => w'.cell? ⟨q, 0, none⟩ = some (.pointer (some ⟨a, 0, none⟩)) ∧ w'.cell? ⟨q, 1, none⟩ = some (.pointer (some ⟨b, 0, none⟩)) ∧ w'.cell? ⟨bb, off + k * 9, none⟩ = some (.int .i64 l[k].kind) ∧ w'.cell? ⟨bb, off + k * 9 + 1, none⟩ = some (.int .i64 l[k].term) ∧ w'.cell? ⟨bb, off + k * 9 + 2, none⟩ = some (.int .i64 l[k].slot) ∧ w'.cell? ⟨bb, off + k * 9 + 3, none⟩ = some (.string l[k].data) ∧
            w'.cell? ⟨bb, off + k * 9 + 4, none⟩ = some (.int .i64 l[k].fault.kind) ∧ w'.cell? ⟨bb, off + k * 9 + 5, none⟩ = some (.int .i64 l[k].fault.slot) ∧ w'.cell? ⟨bb, off + k * 9 + 6, none⟩ = some (.int .i64 l[k].fault.bit) ∧ w'.cell? ⟨bb, off + k * 9 + 7, none⟩ = some (.int .i64 l[k].fault.mask) ∧ w'.cell? ⟨bb, off + k * 9 + 8, none⟩ = some (.int .i64 l[k].fault.dest))
          (exact ⟨HGF.out.box.cells.1, HGF.out.box.cells.2, OpsAt.cells (HCC.out _ HGF.out.below) k hlt⟩)
          ((first
            | (go_at_call 18; refine (write_e HGF.out.drv HGF.out.ok l[k].term l[k].slot l[k].data).mono ?_; rintro e wx ⟨rfl, hd4, hf4⟩; rw [dead_write HST.out.2.1] at hd4; rw [dead_write HST.out.2.1]; obtain ⟨o4, hg4⟩ := HGF.out.keep hd4 hf4 HDOK.out; replace HGF := hid hg4; clear hg4 hd4 hf4)
            | (go_at_call 22; refine (platters_e HGF.out.drv HGF.out.ok).mono ?_; rintro e wx ⟨vp, rfl, htp, hby⟩; rw [dead_platters HST.out.2.1] at htp; obtain ⟨A9, c9, rfl, _⟩ := htp.form; replace HGF := hid (HGF.out.then hby); clear hby htp)
            | (go_at_call 25; refine (status_e HGF.out.drv HGF.out.ok).mono ?_; rintro e wx ⟨rfl, hby⟩; rw [HST.out.1, HST.out.2.1, HST.out.2.2.1]; replace HGF := hid (HGF.out.then hby); clear hby)))
        go_wp2
        go_roundw
        case rel => exact ⟨k + 1, _, by omega, by go_num, HGF⟩
        case measure => (simp [intOf]; try omega)
      · have HW := hid HG.out.below
        clear HG
        go_wp2_with (go_at_call 16; refine (awake26 _).mono ?_; rintro e w2 ⟨rfl, hb2⟩)
        go_ret
        exact ⟨rfl, HW.out.trans (hb2.mono HW.out.size)⟩
end Go.Proofs.Ytiodfnjblimmbaa
