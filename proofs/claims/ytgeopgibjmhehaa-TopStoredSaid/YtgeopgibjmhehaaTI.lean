/- DrivePlays. -/
import Derived.Test.YtgeopgibjmhehaaTH
import Derived.Test.YtgeopgibjmhehaaTF
import Derived.Test.YtgeopgibjmhehaaTA
import Derived.Test.YtgeopgibjmhehaaQuiet
namespace Go.Proofs.Ytgeopgibjmhehaa
open Go Go.RowKit Go.Sort

end Go.Proofs.Ytgeopgibjmhehaa

/- DriveDies. -/
namespace Go.Proofs.Ytgeopgibjmhehaa
open Go Go.RowKit Go.Sort

theorem dead_read {S : Dv} (h : S.dead = true) (s : Int) : S.read s = (⟨#[]⟩, 105) := by
  unfold Dv.read Dv.online; rw [h]; rfl
theorem dead_write {S : Dv} (h : S.dead = true) (t s : Int) (d : ByteArray) : S.write t s d = (105, S) := by
  unfold Dv.write Dv.online; rw [h]; rfl
theorem dead_inject {S : Dv} (h : S.dead = true) (f : Flt) : (S.inject f).2 = S := by
  unfold Dv.inject
  split <;> simp [h]
theorem dead_platters {S : Dv} (h : S.dead = true) : S.platters = [] := by unfold Dv.platters; rw [if_pos h]
theorem new_die (c : Int) (r : Nat) : (newDv c r).inject ⟨3, 0, 0, 0, 0⟩ = (0, (newDv c r).die) := rfl

theorem read_b {w : World} {o : Own} {a : Nat} {S : Dv} (h : Drv w o a S) (hS : S.Ok) (s : Int) : Calls Try.prog 30 #[.pointer (some ⟨a, 0, none⟩), .int .i64 s] w fun e w' => e = .returned (.tuple #[.string (S.read s).1, .int .i64 (S.read s).2]) ∧ Below w.heap.size w w' :=
  (read_e h hS s).mono fun _ _ ⟨he, n, hw⟩ => ⟨he, by rw [hw]; exact below_drew _ n⟩
end Go.Proofs.Ytgeopgibjmhehaa

/- DriveSleeps. -/
namespace Go.Proofs.Ytgeopgibjmhehaa
open Go Go.RowKit Go.Sort

theorem off_read {S : Dv} (h : S.online = false) (s : Int) : S.read s = (⟨#[]⟩, 105) := by unfold Dv.read; rw [if_pos h]
theorem off_write {S : Dv} (h : S.online = false) (t s : Int) (d : ByteArray) : S.write t s d = (105, S) := by unfold Dv.write; rw [if_pos h]
theorem off_fence {S : Dv} (h : S.online = false) (t : Int) : S.fence t = (105, S) := by unfold Dv.fence; rw [if_pos h]
theorem vanish_eq {S : Dv} (h : S.dead = false) : S.inject ⟨1, 0, 0, 0, 0⟩ = (0, { S with off := true }) := by
  unfold Dv.inject
  rw [if_neg (by rw [show Dv.valid S.claim ⟨1, 0, 0, 0, 0⟩ = true from rfl]; simp), if_neg (by simp [h])]
  rfl
theorem return_eq {S : Dv} (h : S.dead = false) : Dv.inject { S with off := true } ⟨2, 0, 0, 0, 0⟩ = (0, { S with off := false }) := by
  unfold Dv.inject
  rw [if_neg (by rw [show Dv.valid S.claim ⟨2, 0, 0, 0, 0⟩ = true from rfl]; simp), if_neg (by simp [h])]
  rfl
theorem store_dead (S : Dv) (s : Int) (d : ByteArray) : (S.store s d).dead = S.dead := by
  unfold Dv.store
  cases S.pend with
  | nil => rfl
  | cons f r => dsimp only; split <;> rfl
theorem write_dead (S : Dv) (t s : Int) (d : ByteArray) : (S.write t s d).2.dead = S.dead := by
  unfold Dv.write
  repeat' split
  all_goals first | rfl | exact store_dead _ _ _
theorem fence_dead (S : Dv) (t : Int) : (S.fence t).2.dead = S.dead := by
  unfold Dv.fence
  repeat' split
  all_goals rfl
theorem inject_dead (S : Dv) (f : Flt) (h : f.kind ≠ 3) : (S.inject f).2.dead = S.dead := by
  unfold Dv.inject
  repeat' split
  all_goals first | rfl | skip
  show (S.happen f).dead = S.dead
  unfold Dv.happen
  rw [if_neg h]
  repeat' split
  all_goals rfl
theorem step_dead (S : Dv) (x : Opr) (h : x.kind ≠ 5 ∨ x.fault.kind ≠ 3) : (S.step x).dead = S.dead := by
  unfold Dv.step
  by_cases h1 : x.kind = 1
  · rw [if_pos h1]; exact write_dead _ _ _ _
  rw [if_neg h1]
  by_cases h3 : x.kind = 3
  · rw [if_pos h3]; exact write_dead _ _ _ _
  rw [if_neg h3]
  by_cases h4 : x.kind = 4
  · rw [if_pos h4]; exact fence_dead _ _
  rw [if_neg h4]
  by_cases h5 : x.kind = 5
  · rw [if_pos h5]
    rcases h with h | h
    · exact absurd h5 h
    · exact inject_dead _ _ h
  rw [if_neg h5]
theorem platters_same {S T : Dv} (h1 : S.dead = T.dead) (h2 : S.secs = T.secs) : S.platters = T.platters := by unfold Dv.platters; rw [h1, h2]

/-- Strings that were taken once stay so, whatever becomes of the drive. -/
structure Was (w : World) (own o : Own) (v : Value) (l : List ByteArray) : Prop where
  texts : Texts w own v l
  ap : Apart own o
  un : Under w own
theorem Was.then {w w' : World} {own o : Own} {v : Value} {l : List ByteArray} (h : Was w own o v l) (hb : Below w.heap.size w w') : Was w' own o v l := ⟨OwnSl.below h.texts hb, h.ap, h.un.mv hb.size⟩
theorem Was.step {w w' : World} {own o : Own} {v : Value} {l : List ByteArray} (h : Was w own o v l) (hf : Fr o w w') : Was w' own (Grow o w w') v l :=
  ⟨OwnSl.fr h.texts hf h.ap, (hf.mv.apart h.un h.ap.symm).symm, h.un.mv hf.size⟩
theorem Was.keep {w w' : World} {own o : Own} {v : Value} {l : List ByteArray} (h : Was w own o v l) (hf : Fr o w w') : Was w' own o v l := ⟨OwnSl.fr h.texts hf h.ap, h.ap, h.un.mv hf.size⟩
theorem field_term (x y : Bool) (t : Int) (W : World) : (Instr.field 73 (.agg #[.bool x, .bool y, .int .i64 t]) 2).run Try.prog W = .ok (.int .i64 t) W := by kernel_rfl
abbrev OpCells (w' : World) (bb off : Nat) (x : Opr) : Prop := w'.cell? ⟨bb, off, none⟩ = some (.int .i64 x.kind) ∧ w'.cell? ⟨bb, off + 1, none⟩ = some (.int .i64 x.term) ∧ w'.cell? ⟨bb, off + 2, none⟩ = some (.int .i64 x.slot) ∧ w'.cell? ⟨bb, off + 3, none⟩ = some (.string x.data) ∧
  w'.cell? ⟨bb, off + 4, none⟩ = some (.int .i64 x.fault.kind) ∧ w'.cell? ⟨bb, off + 5, none⟩ = some (.int .i64 x.fault.slot) ∧ w'.cell? ⟨bb, off + 6, none⟩ = some (.int .i64 x.fault.bit) ∧ w'.cell? ⟨bb, off + 7, none⟩ = some (.int .i64 x.fault.mask) ∧ w'.cell? ⟨bb, off + 8, none⟩ = some (.int .i64 x.fault.dest)

end Go.Proofs.Ytgeopgibjmhehaa

/- DriveMedia. -/
namespace Go.Proofs.Ytgeopgibjmhehaa
open Go Go.RowKit Go.Sort

theorem write_ok {S : Dv} {t s : Int} {d : ByteArray} (ho : S.online = true) (ht : ¬ t < S.term) (hs : S.slot s = true) (hd : d.size = 36) : S.write t s d = (0, Dv.store { S with term := t } s d) := by
  unfold Dv.write
  rw [if_neg (by simp [ho]), if_neg ht, if_neg (by simp [hs]), if_neg (by simp [hd])]
theorem read_ok {S : Dv} {s : Int} (ho : S.online = true) (hs : S.slot s = true) (hu : (S.get s).un = false) : S.read s = ((S.get s).data, 0) := by
  unfold Dv.read
  rw [if_neg (by simp [ho]), if_neg (by simp [hs]), if_neg (by simp [hu])]
theorem slot_in {S : Dv} {s : Int} (h0 : 0 ≤ s) (h1 : s < S.claim) : S.slot s = true := by
  unfold Dv.slot; simp [h0, h1]
theorem at_put {S : Dv} (s s2 : Int) (x : Sec) : (S.put s x).at_ s2 = S.at_ s2 := by unfold Dv.at_ Dv.put; simp
theorem get_put {S : Dv} (h : S.Ok) (s : Int) (x : Sec) : (S.put s x).get s = x := by
  unfold Dv.get
  rw [at_put]
  have := S.at_lt h s
  unfold Dv.put
  rw [List.getD_eq_getElem?_getD, List.getElem?_set_self this]; rfl

theorem media_plain (X Y : ByteArray) (s : Int) (h0 : 0 ≤ s) (h1 : s < 5) (hX : X.size = 36) (hY : Y.size = 36) :
    ∃ S1 S2 S3 : Dv, (newDv 5 5).write 0 s X = (0, S1) ∧ S1.inject ⟨7, s, 0, 0, 0⟩ = (0, S2) ∧ S2.read s = (⟨#[]⟩, 107) ∧ S2.platters.length = 5 ∧ S2.platters[s.toNat]? = some ⟨#[]⟩ ∧ S2.write 0 s Y = (0, S3) ∧ S3.read s = (Y, 0) ∧ S1.pend = [] := by
  have ho := newDv_ok 5 5 (by decide) (by decide) (by decide)
  have w1 := write_ok (S := newDv 5 5) (t := 0) (s := s) (d := X) rfl (by decide) (slot_in h0 h1) hX
  have o1 : (Dv.put { newDv 5 5 with term := 0 } s ⟨X, false, false⟩).Ok := Dv.Ok.put (S := { newDv 5 5 with term := 0 }) ho _ _ hX
  have e1 : Dv.store { newDv 5 5 with term := 0 } s X = Dv.put { newDv 5 5 with term := 0 } s ⟨X, false, false⟩ := rfl
  rw [e1] at w1
  obtain ⟨S1, hS1⟩ : ∃ S, Dv.put { newDv 5 5 with term := 0 } s ⟨X, false, false⟩ = S := ⟨_, rfl⟩
  have p1 : S1.claim = 5 ∧ S1.off = false ∧ S1.dead = false ∧ S1.term = 0 ∧ S1.pend = [] ∧ S1.secs.length = 5 := by subst hS1; exact ⟨rfl, rfl, rfl, rfl, rfl, by simp [Dv.put, newDv]⟩
  obtain ⟨pc, po, pd, pt, pp, pl⟩ := p1
  rw [hS1] at w1 o1
  have hv : Dv.valid S1.claim ⟨7, s, 0, 0, 0⟩ = true := by unfold Dv.valid; rw [pc]; simp [h0, h1]
  have i2 : S1.inject ⟨7, s, 0, 0, 0⟩ = (0, S1.put s { S1.get s with un := true }) := by
    unfold Dv.inject; rw [hv, pd]; simp [Dv.happen]
  have o2 : (S1.put s { S1.get s with un := true }).Ok := o1.put _ _ (S1.get_size o1 s)
  have g2 := get_put o1 s { S1.get s with un := true }
  have at2 : (S1.put s { S1.get s with un := true }).at_ s = s.toNat := by
    rw [at_put]; unfold Dv.at_; rw [pl]; show (s % 5).toNat = _; rw [Int.emod_eq_of_lt h0 h1]
  have f2 : (S1.put s { S1.get s with un := true }).claim = 5 ∧ (S1.put s { S1.get s with un := true }).off = false ∧ (S1.put s { S1.get s with un := true }).dead = false ∧ (S1.put s { S1.get s with un := true }).term = 0 ∧ (S1.put s { S1.get s with un := true }).pend = [] ∧ (S1.put s { S1.get s with un := true }).secs.length = 5 := ⟨pc, po, pd, pt, pp, by simp [Dv.put, pl]⟩
  obtain ⟨S2, hS2⟩ : ∃ S, S1.put s { S1.get s with un := true } = S := ⟨_, rfl⟩
  rw [hS2] at i2 o2 g2 f2 at2
  obtain ⟨qc, qo, qd, qt, qp, ql⟩ := f2
  have on2 : S2.online = true := by unfold Dv.online; rw [qo, qd]; rfl
  have sl2 : S2.slot s = true := slot_in h0 (by rw [qc]; exact h1)
  have r2 : S2.read s = (⟨#[]⟩, 107) := by
    unfold Dv.read
    rw [if_neg (by simp [on2]), if_neg (by simp [sl2]), if_pos (by rw [g2])]
  have pla : S2.platters = S2.secs.map fun s => if s.un = true then ⟨#[]⟩ else s.data := by unfold Dv.platters; rw [if_neg (by simp [qd])]
  have w3 := write_ok (S := S2) (t := 0) (s := s) (d := Y) on2 (by rw [qt]; decide) sl2 hY
  have e3 : Dv.store { S2 with term := 0 } s Y = Dv.put { S2 with term := 0 } s ⟨Y, false, false⟩ := by unfold Dv.store; simp only [qp]
  rw [e3] at w3
  have o2' : Dv.Ok { S2 with term := 0 } := o2.same rfl rfl (fun _ e => e)
  have g3 := get_put o2' s ⟨Y, false, false⟩
  have r3 := read_ok (S := Dv.put { S2 with term := 0 } s ⟨Y, false, false⟩) (s := s) (by show (!S2.dead && !S2.off) = true; rw [qo, qd]; rfl) (slot_in h0 (by show s < S2.claim; rw [qc]; exact h1)) (by rw [g3])
  rw [g3] at r3
  refine ⟨S1, S2, _, w1, i2, r2, by rw [pla]; simp [ql], ?_, w3, r3, pp⟩
  have hlt := S2.at_lt o2 s
  rw [pla, List.getElem?_map, ← at2, List.getElem?_eq_getElem hlt, ← S2.get_eq o2 s, g2]
  rfl

theorem Texts.at_ {w : World} {o : Own} {v : Value} {l : List ByteArray} (h : Texts w o v l) (k : Nat) (x : ByteArray) (hk : l[k]? = some x) : ∃ g off c, v = .slice (some ⟨g, off, none⟩) l.length c ∧ w.cell? ⟨g, off + k, none⟩ = some (.string x) := by
  obtain ⟨hlt, rfl⟩ := List.getElem?_eq_some_iff.1 hk
  obtain ⟨A, c, rfl, _, hc⟩ := h.form
  obtain ⟨g, off, rfl, hc2⟩ := hc (by omega)
  exact ⟨g, off, c, rfl, hc2 k hlt⟩
end Go.Proofs.Ytgeopgibjmhehaa

/- DriveFlips. -/
namespace Go.Proofs.Ytgeopgibjmhehaa
open Go Go.RowKit Go.Sort

def triD (s : Sec) : Dv := ⟨3, [blankSec, s, blankSec], false, false, 0, []⟩
theorem triD_ok (s : Sec) (h : s.data.size = 36) : (triD s).Ok :=
  ⟨by simp [triD], by simp [triD], by simp [triD], fun x hx => by
    simp only [triD, List.mem_cons, List.not_mem_nil, or_false] at hx
    rcases hx with rfl | rfl | rfl
    · rfl
    · exact h
    · rfl, fun f hf => by simp [triD] at hf⟩
theorem tri_new : newDv 3 3 = triD blankSec := rfl
theorem tri_write (s : Sec) (X : ByteArray) (hX : X.size = 36) : (triD s).write 0 1 X = (0, triD ⟨X, false, false⟩) := by
  rw [write_ok rfl (show ¬ (0 : Int) < 0 by decide) rfl hX]; rfl
theorem tri_flip (s : Sec) (b m : Int) (hb : 0 ≤ b ∧ b < 288) (hm : 1 ≤ m ∧ m ≤ 4294967295) : (triD s).inject ⟨4, 1, b, m, 0⟩ = (0, triD (s.flip b m)) := by
  have hv : Dv.valid (triD s).claim ⟨4, 1, b, m, 0⟩ = true := by unfold Dv.valid; simp [triD, hb, hm]
  unfold Dv.inject
  rw [hv]
  rfl
theorem tri_read (s : Sec) (h : s.un = false) : (triD s).read 1 = (s.data, 0) := by
  rw [read_ok rfl rfl (show ((triD s).get 1).un = false from h)]; rfl
theorem tri_read0 (s : Sec) : (triD s).read 0 = (blank, 0) := by
  rw [read_ok rfl rfl rfl]; rfl
theorem flip_twice (X : ByteArray) (b m b2 m2 : Int) : (Sec.flip (Sec.flip ⟨X, false, false⟩ b m) b2 m2) = ⟨flipD X b m, false, true⟩ := rfl
theorem flip_once (X : ByteArray) (b m : Int) : (Sec.flip ⟨X, false, false⟩ b m) = ⟨flipD X b m, false, true⟩ := rfl
theorem mask_of (x : Int) : ∃ m : BitVec 32, 1 + x % 4294967295 = (m.toNat : Int) ∧ 1 ≤ (m.toNat : Int) := by
  have h0 := Int.emod_nonneg x (show (4294967295 : Int) ≠ 0 by decide)
  have h1 := Int.emod_lt_of_pos x (show (0 : Int) < 4294967295 by decide)
  refine ⟨BitVec.ofNat 32 (1 + x % 4294967295).toNat, ?_, ?_⟩ <;> rw [BitVec.toNat_ofNat] <;> omega
theorem flipD_nat (X : ByteArray) (b : Nat) (m : BitVec 32) : (Value.string (flipD X b (m.toNat : Int))) = str (flipL X.data.toList b m 32) := by
  unfold flipD; rw [Int.toNat_natCast, ofInt_bv]
theorem str_self (a : ByteArray) : (!(a.toList == a.toList)) = false := by rw [str_eq]; rfl

/-- A fault lies in block q. -/
def BoxAt (w : World) (q : Nat) (f : Flt) : Prop := w.heap[q]? = some (.cells #[.int .i64 f.kind, .int .i64 f.slot, .int .i64 f.bit, .int .i64 f.mask, .int .i64 f.dest] 42 (0, 0))
theorem BoxAt.lt {w : World} {q : Nat} {f : Flt} (h : BoxAt w q f) : q < w.heap.size := (Array.getElem?_eq_some_iff.1 h).1
theorem BoxAt.fr {w w' : World} {o : Own} {q : Nat} {f : Flt} (h : BoxAt w q f) (hf : Fr o w w') (hq : ¬ o q) : BoxAt w' q f := (hf.block q h.lt hq).trans h
theorem BoxAt.below {w w' : World} {q : Nat} {f : Flt} (h : BoxAt w q f) (hb : Below w.heap.size w w') : BoxAt w' q f := (hb.block q h.lt).trans h
theorem not_grow {o : Own} {w w' : World} {q : Nat} (h : ¬ o q) (hq : q < w.heap.size) : ¬ Grow o w w' q := fun e => by
  rcases e with e | e
  · exact h e
  · omega
theorem BoxAt.cells {w : World} {q : Nat} {f : Flt} (h : BoxAt w q f) : w.cell? ⟨q, 0, none⟩ = some (.int .i64 f.kind) ∧ w.cell? ⟨q, 1, none⟩ = some (.int .i64 f.slot) ∧ w.cell? ⟨q, 2, none⟩ = some (.int .i64 f.bit) ∧ w.cell? ⟨q, 3, none⟩ = some (.int .i64 f.mask) ∧ w.cell? ⟨q, 4, none⟩ = some (.int .i64 f.dest) :=
  ⟨cell_block h 0, cell_block h 1, cell_block h 2, cell_block h 3, cell_block h 4⟩

end Go.Proofs.Ytgeopgibjmhehaa

/- Near: a piece whose numbers are within their ranges. -/
namespace Go.Proofs.Ytgeopgibjmhehaa
open Go.RowKit
attribute [local go_sem ↓] Go.wp_at_zero Go.wp_at_succ

theorem piece_size : (Try.prog.info? 35).map (·.size) = some 6 := by kernel_rfl
theorem piece_one (v f s g ve : Int) (d : ByteArray) : (#[Value.int .i64 v, .int .i64 f, .int .i64 s, .int .i64 g, .int .i64 ve, .string d]).all (·.oneCell') = true := by
  simp [Value.oneCell']
theorem below_drewN {B : Nat} {a w : World} (h : Below B a w) (n : Nat) : Below B a (w.drewN n) := ⟨h.os, h.tape, h.output, h.size, h.block⟩

end Go.Proofs.Ytgeopgibjmhehaa
