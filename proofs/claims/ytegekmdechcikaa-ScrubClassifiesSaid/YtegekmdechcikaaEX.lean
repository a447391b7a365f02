/- DriveMedia. -/
import Derived.Test.YtegekmdechcikaaEText
import Derived.Test.YtegekmdechcikaaEArgs
namespace Go.Proofs.Ytegekmdechcikaa
open Go Go.RowKit Go.Sort

theorem write_ok {S : Dv} {t s : Int} {d : ByteArray} (ho : S.online = true) (ht : ¬ t < S.term) (hs : S.slot s = true) (hd : d.size = 36) : S.write t s d = (0, Dv.store { S with term := t } s d) := by
  unfold Dv.write
  rw [if_neg (by simp [ho]), if_neg ht, if_neg (by simp [hs]), if_neg (by simp [hd])]
theorem read_ok {S : Dv} {s : Int} (ho : S.online = true) (hs : S.slot s = true) (hu : (S.get s).un = false) : S.read s = ((S.get s).data, 0) := by
  unfold Dv.read
  rw [if_neg (by simp [ho]), if_neg (by simp [hs]), if_neg (by simp [hu])]
theorem slot_in {S : Dv} {s : Int} (h0 : 0 ≤ s) (h1 : s < S.claim) : S.slot s = true := by
  unfold Dv.slot; simp [h0, h1]
theorem at_put {S : Dv} (s s2 : Int) (x : Sec) : (S.put s x).at_ s2 = S.at_ s2 := by unfold Dv.at_ Dv.put; simp
theorem get_put {S : Dv} (h : S.Ok) (s : Int) (x : Sec) : (S.put s x).get s = x := by
  unfold Dv.get
  rw [at_put]
  have := S.at_lt h s
  unfold Dv.put
  rw [List.getD_eq_getElem?_getD, List.getElem?_set_self this]; rfl

theorem media_plain (X Y : ByteArray) (s : Int) (h0 : 0 ≤ s) (h1 : s < 5) (hX : X.size = 36) (hY : Y.size = 36) :
    ∃ S1 S2 S3 : Dv, (newDv 5 5).write 0 s X = (0, S1) ∧ S1.inject ⟨7, s, 0, 0, 0⟩ = (0, S2) ∧ S2.read s = (⟨#[]⟩, 107) ∧ S2.platters.length = 5 ∧ S2.platters[s.toNat]? = some ⟨#[]⟩ ∧ S2.write 0 s Y = (0, S3) ∧ S3.read s = (Y, 0) ∧ S1.pend = [] := by
  have ho := newDv_ok 5 5 (by decide) (by decide) (by decide)
  have w1 := write_ok (S := newDv 5 5) (t := 0) (s := s) (d := X) rfl (by decide) (slot_in h0 h1) hX
  have o1 : (Dv.put { newDv 5 5 with term := 0 } s ⟨X, false, false⟩).Ok := Dv.Ok.put (S := { newDv 5 5 with term := 0 }) ho _ _ hX
  have e1 : Dv.store { newDv 5 5 with term := 0 } s X = Dv.put { newDv 5 5 with term := 0 } s ⟨X, false, false⟩ := rfl
  rw [e1] at w1
  obtain ⟨S1, hS1⟩ : ∃ S, Dv.put { newDv 5 5 with term := 0 } s ⟨X, false, false⟩ = S := ⟨_, rfl⟩
  have p1 : S1.claim = 5 ∧ S1.off = false ∧ S1.dead = false ∧ S1.term = 0 ∧ S1.pend = [] ∧ S1.secs.length = 5 := by subst hS1; exact ⟨rfl, rfl, rfl, rfl, rfl, by simp [Dv.put, newDv]⟩
  obtain ⟨pc, po, pd, pt, pp, pl⟩ := p1
  rw [hS1] at w1 o1
  have hv : Dv.valid S1.claim ⟨7, s, 0, 0, 0⟩ = true := by unfold Dv.valid; rw [pc]; simp [h0, h1]
  have i2 : S1.inject ⟨7, s, 0, 0, 0⟩ = (0, S1.put s { S1.get s with un := true }) := by
    unfold Dv.inject; rw [hv, pd]; simp [Dv.happen]
  have o2 : (S1.put s { S1.get s with un := true }).Ok := o1.put _ _ (S1.get_size o1 s)
  have g2 := get_put o1 s { S1.get s with un := true }
  have at2 : (S1.put s { S1.get s with un := true }).at_ s = s.toNat := by
    rw [at_put]; unfold Dv.at_; rw [pl]; show (s % 5).toNat = _; rw [Int.emod_eq_of_lt h0 h1]
  have f2 : (S1.put s { S1.get s with un := true }).claim = 5 ∧ (S1.put s { S1.get s with un := true }).off = false ∧ (S1.put s { S1.get s with un := true }).dead = false ∧ (S1.put s { S1.get s with un := true }).term = 0 ∧ (S1.put s { S1.get s with un := true }).pend = [] ∧ (S1.put s { S1.get s with un := true }).secs.length = 5 := ⟨pc, po, pd, pt, pp, by simp [Dv.put, pl]⟩
  obtain ⟨S2, hS2⟩ : ∃ S, S1.put s { S1.get s with un := true } = S := ⟨_, rfl⟩
  rw [hS2] at i2 o2 g2 f2 at2
  obtain ⟨qc, qo, qd, qt, qp, ql⟩ := f2
  have on2 : S2.online = true := by unfold Dv.online; rw [qo, qd]; rfl
  have sl2 : S2.slot s = true := slot_in h0 (by rw [qc]; exact h1)
  have r2 : S2.read s = (⟨#[]⟩, 107) := by
    unfold Dv.read
    rw [if_neg (by simp [on2]), if_neg (by simp [sl2]), if_pos (by rw [g2])]
  have pla : S2.platters = S2.secs.map fun s => if s.un = true then ⟨#[]⟩ else s.data := by unfold Dv.platters; rw [if_neg (by simp [qd])]
  have w3 := write_ok (S := S2) (t := 0) (s := s) (d := Y) on2 (by rw [qt]; decide) sl2 hY
  have e3 : Dv.store { S2 with term := 0 } s Y = Dv.put { S2 with term := 0 } s ⟨Y, false, false⟩ := by unfold Dv.store; simp only [qp]
  rw [e3] at w3
  have o2' : Dv.Ok { S2 with term := 0 } := o2.same rfl rfl (fun _ e => e)
  have g3 := get_put o2' s ⟨Y, false, false⟩
  have r3 := read_ok (S := Dv.put { S2 with term := 0 } s ⟨Y, false, false⟩) (s := s) (by show (!S2.dead && !S2.off) = true; rw [qo, qd]; rfl) (slot_in h0 (by show s < S2.claim; rw [qc]; exact h1)) (by rw [g3])
  rw [g3] at r3
  refine ⟨S1, S2, _, w1, i2, r2, by rw [pla]; simp [ql], ?_, w3, r3, pp⟩
  have hlt := S2.at_lt o2 s
  rw [pla, List.getElem?_map, ← at2, List.getElem?_eq_getElem hlt, ← S2.get_eq o2 s, g2]
  rfl

theorem Texts.at_ {w : World} {o : Own} {v : Value} {l : List ByteArray} (h : Texts w o v l) (k : Nat) (x : ByteArray) (hk : l[k]? = some x) : ∃ g off c, v = .slice (some ⟨g, off, none⟩) l.length c ∧ w.cell? ⟨g, off + k, none⟩ = some (.string x) := by
  obtain ⟨hlt, rfl⟩ := List.getElem?_eq_some_iff.1 hk
  obtain ⟨A, c, rfl, _, hc⟩ := h.form
  obtain ⟨g, off, rfl, hc2⟩ := hc (by omega)
  exact ⟨g, off, c, rfl, hc2 k hlt⟩
end Go.Proofs.Ytegekmdechcikaa

/- DriveFlips. -/
namespace Go.Proofs.Ytegekmdechcikaa
open Go Go.RowKit Go.Sort

def triD (s : Sec) : Dv := ⟨3, [blankSec, s, blankSec], false, false, 0, []⟩
theorem triD_ok (s : Sec) (h : s.data.size = 36) : (triD s).Ok :=
  ⟨by simp [triD], by simp [triD], by simp [triD], fun x hx => by
    simp only [triD, List.mem_cons, List.not_mem_nil, or_false] at hx
    rcases hx with rfl | rfl | rfl
    · rfl
    · exact h
    · rfl, fun f hf => by simp [triD] at hf⟩
theorem tri_new : newDv 3 3 = triD blankSec := rfl
theorem tri_write (s : Sec) (X : ByteArray) (hX : X.size = 36) : (triD s).write 0 1 X = (0, triD ⟨X, false, false⟩) := by
  rw [write_ok rfl (show ¬ (0 : Int) < 0 by decide) rfl hX]; rfl
theorem tri_flip (s : Sec) (b m : Int) (hb : 0 ≤ b ∧ b < 288) (hm : 1 ≤ m ∧ m ≤ 4294967295) : (triD s).inject ⟨4, 1, b, m, 0⟩ = (0, triD (s.flip b m)) := by
  have hv : Dv.valid (triD s).claim ⟨4, 1, b, m, 0⟩ = true := by unfold Dv.valid; simp [triD, hb, hm]
  unfold Dv.inject
  rw [hv]
  rfl
theorem tri_read (s : Sec) (h : s.un = false) : (triD s).read 1 = (s.data, 0) := by
  rw [read_ok rfl rfl (show ((triD s).get 1).un = false from h)]; rfl
theorem tri_read0 (s : Sec) : (triD s).read 0 = (blank, 0) := by
  rw [read_ok rfl rfl rfl]; rfl
theorem flip_twice (X : ByteArray) (b m b2 m2 : Int) : (Sec.flip (Sec.flip ⟨X, false, false⟩ b m) b2 m2) = ⟨flipD X b m, false, true⟩ := rfl
theorem flip_once (X : ByteArray) (b m : Int) : (Sec.flip ⟨X, false, false⟩ b m) = ⟨flipD X b m, false, true⟩ := rfl
theorem mask_of (x : Int) : ∃ m : BitVec 32, 1 + x % 4294967295 = (m.toNat : Int) ∧ 1 ≤ (m.toNat : Int) := by
  have h0 := Int.emod_nonneg x (show (4294967295 : Int) ≠ 0 by decide)
  have h1 := Int.emod_lt_of_pos x (show (0 : Int) < 4294967295 by decide)
  refine ⟨BitVec.ofNat 32 (1 + x % 4294967295).toNat, ?_, ?_⟩ <;> rw [BitVec.toNat_ofNat] <;> omega
theorem flipD_nat (X : ByteArray) (b : Nat) (m : BitVec 32) : (Value.string (flipD X b (m.toNat : Int))) = str (flipL X.data.toList b m 32) := by
  unfold flipD; rw [Int.toNat_natCast, ofInt_bv]
theorem str_self (a : ByteArray) : (!(a.toList == a.toList)) = false := by rw [str_eq]; rfl

/-- A fault lies in block q. -/
def BoxAt (w : World) (q : Nat) (f : Flt) : Prop := w.heap[q]? = some (.cells #[.int .i64 f.kind, .int .i64 f.slot, .int .i64 f.bit, .int .i64 f.mask, .int .i64 f.dest] 43 (0, 0))
theorem BoxAt.lt {w : World} {q : Nat} {f : Flt} (h : BoxAt w q f) : q < w.heap.size := (Array.getElem?_eq_some_iff.1 h).1
theorem BoxAt.fr {w w' : World} {o : Own} {q : Nat} {f : Flt} (h : BoxAt w q f) (hf : Fr o w w') (hq : ¬ o q) : BoxAt w' q f := (hf.block q h.lt hq).trans h
theorem BoxAt.below {w w' : World} {q : Nat} {f : Flt} (h : BoxAt w q f) (hb : Below w.heap.size w w') : BoxAt w' q f := (hb.block q h.lt).trans h
theorem not_grow {o : Own} {w w' : World} {q : Nat} (h : ¬ o q) (hq : q < w.heap.size) : ¬ Grow o w w' q := fun e => by
  rcases e with e | e
  · exact h e
  · omega
theorem BoxAt.cells {w : World} {q : Nat} {f : Flt} (h : BoxAt w q f) : w.cell? ⟨q, 0, none⟩ = some (.int .i64 f.kind) ∧ w.cell? ⟨q, 1, none⟩ = some (.int .i64 f.slot) ∧ w.cell? ⟨q, 2, none⟩ = some (.int .i64 f.bit) ∧ w.cell? ⟨q, 3, none⟩ = some (.int .i64 f.mask) ∧ w.cell? ⟨q, 4, none⟩ = some (.int .i64 f.dest) :=
  ⟨cell_block h 0, cell_block h 1, cell_block h 2, cell_block h 3, cell_block h 4⟩

end Go.Proofs.Ytegekmdechcikaa

/- DrivePlays. -/
namespace Go.Proofs.Ytegekmdechcikaa
open Go Go.RowKit Go.Sort

/-- The pair lies in block q. -/
def PairBox (w : World) (q a b : Nat) : Prop := w.heap[q]? = some (.cells #[.pointer (some ⟨a, 0, none⟩), .pointer (some ⟨b, 0, none⟩)] 54 (0, 0))
theorem PairBox.lt {w : World} {q a b : Nat} (h : PairBox w q a b) : q < w.heap.size := (Array.getElem?_eq_some_iff.1 h).1
theorem PairBox.below {w w' : World} {q a b : Nat} (h : PairBox w q a b) (hb : Below w.heap.size w w') : PairBox w' q a b := (hb.block q h.lt).trans h
theorem PairBox.fr {w w' : World} {o : Own} {q a b : Nat} (h : PairBox w q a b) (hf : Fr o w w') (hn : ¬ o q) : PairBox w' q a b := (hf.block q h.lt hn).trans h
theorem PairBox.cells {w : World} {q a b : Nat} (h : PairBox w q a b) : w.cell? ⟨q, 0, none⟩ = some (.pointer (some ⟨a, 0, none⟩)) ∧ w.cell? ⟨q, 1, none⟩ = some (.pointer (some ⟨b, 0, none⟩)) := ⟨cell_block h 0, cell_block h 1⟩
/-- All that is known of a pair in the midst of a law that began in world w0. -/
structure Game (w0 : World) (q a b n : Nat) (S : Dv) (w : World) (o1 o2 : Own) : Prop where
  both : Both w o1 o2 a b S
  ok : S.Ok
  few : S.pend.length ≤ n
  above : Above w0.heap.size (Or o1 o2)
  nq : ¬ Or o1 o2 q
  box : PairBox w q a b
  below : Below w0.heap.size w0 w
theorem Game.le {w0 w : World} {q a b n m : Nat} {S : Dv} {o1 o2 : Own} (h : Game w0 q a b n S w o1 o2) (hm : n ≤ m) : Game w0 q a b m S w o1 o2 := ⟨h.both, h.ok, Nat.le_trans h.few hm, h.above, h.nq, h.box, h.below⟩
theorem Game.then {w0 w w' : World} {q a b n : Nat} {S : Dv} {o1 o2 : Own} (h : Game w0 q a b n S w o1 o2) (hb : Below w.heap.size w w') : Game w0 q a b n S w' o1 o2 :=
  ⟨h.both.below hb, h.ok, h.few, h.above, h.nq, h.box.below hb, h.below.trans (hb.mono h.below.size)⟩
theorem Game.moved {w0 w w' : World} {q a b n : Nat} {S T : Dv} {o1 o2 : Own} (h : Game w0 q a b n S w o1 o2) (hm : Moved w o1 o2 a b T w') (hT : T.Ok) (hn : T.pend.length ≤ S.pend.length + 1) : ∃ p1 p2, Game w0 q a b (n + 1) T w' p1 p2 := by
  obtain ⟨p1, p2, hb, hmv⟩ := hm
  have hB := h.below.size
  refine ⟨p1, p2, hb, hT, by have := h.few; omega, hmv.above h.above hB, fun e => ?_, h.box.fr hmv.fr h.nq, h.below.trans (hmv.fr.below h.above hB)⟩
  rcases hmv.ext q e with e | e
  · exact h.nq e
  · have := h.box.lt; omega
theorem Game.do_ {w0 w w' : World} {q a b n : Nat} {S : Dv} {o1 o2 : Own} (h : Game w0 q a b n S w o1 o2) (x : Opr) (hm : Moved w o1 o2 a b (S.step x) w') : ∃ p1 p2, Game w0 q a b (n + 1) (S.step x) w' p1 p2 := h.moved hm (h.ok.step x) (Dv.step_pend x)

end Go.Proofs.Ytegekmdechcikaa

/- DriveDies. -/
namespace Go.Proofs.Ytegekmdechcikaa
open Go Go.RowKit Go.Sort

/-- All that is known of one drive of a pair in the midst of a law that began in world w0. -/
structure Solo (w0 : World) (q a b : Nat) (S : Dv) (w : World) (o : Own) : Prop where
  drv : Drv w o a S
  ok : S.Ok
  above : Above w0.heap.size o
  nq : ¬ o q
  box : PairBox w q a b
  below : Below w0.heap.size w0 w
theorem Solo.then {w0 w w' : World} {q a b : Nat} {S : Dv} {o : Own} (h : Solo w0 q a b S w o) (hb : Below w.heap.size w w') : Solo w0 q a b S w' o :=
  ⟨h.drv.below hb, h.ok, h.above, h.nq, h.box.below hb, h.below.trans (hb.mono h.below.size)⟩
theorem Solo.drawn {w0 w : World} {q a b : Nat} {S : Dv} {o : Own} (h : Solo w0 q a b S w o) (n : Nat) : Solo w0 q a b S (w.drewN n) o := h.then (below_drew w n)
theorem Solo.step {w0 w w' : World} {q a b : Nat} {S T : Dv} {o : Own} (h : Solo w0 q a b S w o) (hd : Drv w' (Grow o w w') a T) (hf : Fr o w w') (hT : T.Ok) : ∃ o', Solo w0 q a b T w' o' :=
  ⟨_, hd, hT, hf.mv.above h.above h.below.size, (fun e => e.elim h.nq (fun e => by have := h.box.lt; omega)), h.box.fr hf h.nq, h.below.trans (hf.below h.above h.below.size)⟩
theorem Solo.keep {w0 w w' : World} {q a b : Nat} {S T : Dv} {o : Own} (h : Solo w0 q a b S w o) (hd : Drv w' o a T) (hf : Fr o w w') (hT : T.Ok) : ∃ o', Solo w0 q a b T w' o' := h.step (hd.growTo hf h.drv.under) hf hT
theorem Game.solo {w0 w : World} {q a b n : Nat} {S : Dv} {o1 o2 : Own} (h : Game w0 q a b n S w o1 o2) : Solo w0 q a b S w o1 :=
  ⟨h.both.drv, h.ok, fun k e => h.above k (.inl e), fun e => h.nq (.inl e), h.box, h.below⟩
theorem dead_read {S : Dv} (h : S.dead = true) (s : Int) : S.read s = (⟨#[]⟩, 105) := by
  unfold Dv.read Dv.online; rw [h]; rfl
theorem dead_write {S : Dv} (h : S.dead = true) (t s : Int) (d : ByteArray) : S.write t s d = (105, S) := by
  unfold Dv.write Dv.online; rw [h]; rfl
theorem dead_inject {S : Dv} (h : S.dead = true) (f : Flt) : (S.inject f).2 = S := by
  unfold Dv.inject
  split <;> simp [h]
theorem dead_platters {S : Dv} (h : S.dead = true) : S.platters = [] := by unfold Dv.platters; rw [if_pos h]
theorem new_die (c : Int) (r : Nat) : (newDv c r).inject ⟨3, 0, 0, 0, 0⟩ = (0, (newDv c r).die) := rfl

theorem read_b {w : World} {o : Own} {a : Nat} {S : Dv} (h : Drv w o a S) (hS : S.Ok) (s : Int) : Calls Try.prog 49 #[.pointer (some ⟨a, 0, none⟩), .int .i64 s] w fun e w' => e = .returned (.tuple #[.string (S.read s).1, .int .i64 (S.read s).2]) ∧ Below w.heap.size w w' :=
  (read_e h hS s).mono fun _ _ ⟨he, n, hw⟩ => ⟨he, by rw [hw]; exact below_drew _ n⟩
end Go.Proofs.Ytegekmdechcikaa

/- DriveSleeps. -/
namespace Go.Proofs.Ytegekmdechcikaa
open Go Go.RowKit Go.Sort

theorem off_read {S : Dv} (h : S.online = false) (s : Int) : S.read s = (⟨#[]⟩, 105) := by unfold Dv.read; rw [if_pos h]
theorem off_write {S : Dv} (h : S.online = false) (t s : Int) (d : ByteArray) : S.write t s d = (105, S) := by unfold Dv.write; rw [if_pos h]
theorem off_fence {S : Dv} (h : S.online = false) (t : Int) : S.fence t = (105, S) := by unfold Dv.fence; rw [if_pos h]
theorem vanish_eq {S : Dv} (h : S.dead = false) : S.inject ⟨1, 0, 0, 0, 0⟩ = (0, { S with off := true }) := by
  unfold Dv.inject
  rw [if_neg (by rw [show Dv.valid S.claim ⟨1, 0, 0, 0, 0⟩ = true from rfl]; simp), if_neg (by simp [h])]
  rfl
theorem return_eq {S : Dv} (h : S.dead = false) : Dv.inject { S with off := true } ⟨2, 0, 0, 0, 0⟩ = (0, { S with off := false }) := by
  unfold Dv.inject
  rw [if_neg (by rw [show Dv.valid S.claim ⟨2, 0, 0, 0, 0⟩ = true from rfl]; simp), if_neg (by simp [h])]
  rfl
theorem store_dead (S : Dv) (s : Int) (d : ByteArray) : (S.store s d).dead = S.dead := by
  unfold Dv.store
  cases S.pend with
  | nil => rfl
  | cons f r => dsimp only; split <;> rfl
theorem write_dead (S : Dv) (t s : Int) (d : ByteArray) : (S.write t s d).2.dead = S.dead := by
  unfold Dv.write
  repeat' split
  all_goals first | rfl | exact store_dead _ _ _
theorem fence_dead (S : Dv) (t : Int) : (S.fence t).2.dead = S.dead := by
  unfold Dv.fence
  repeat' split
  all_goals rfl
theorem inject_dead (S : Dv) (f : Flt) (h : f.kind ≠ 3) : (S.inject f).2.dead = S.dead := by
  unfold Dv.inject
  repeat' split
  all_goals first | rfl | skip
  show (S.happen f).dead = S.dead
  unfold Dv.happen
  rw [if_neg h]
  repeat' split
  all_goals rfl
theorem step_dead (S : Dv) (x : Opr) (h : x.kind ≠ 5 ∨ x.fault.kind ≠ 3) : (S.step x).dead = S.dead := by
  unfold Dv.step
  by_cases h1 : x.kind = 1
  · rw [if_pos h1]; exact write_dead _ _ _ _
  rw [if_neg h1]
  by_cases h3 : x.kind = 3
  · rw [if_pos h3]; exact write_dead _ _ _ _
  rw [if_neg h3]
  by_cases h4 : x.kind = 4
  · rw [if_pos h4]; exact fence_dead _ _
  rw [if_neg h4]
  by_cases h5 : x.kind = 5
  · rw [if_pos h5]
    rcases h with h | h
    · exact absurd h5 h
    · exact inject_dead _ _ h
  rw [if_neg h5]
theorem platters_same {S T : Dv} (h1 : S.dead = T.dead) (h2 : S.secs = T.secs) : S.platters = T.platters := by unfold Dv.platters; rw [h1, h2]

/-- Strings that were taken once stay so, whatever becomes of the drive. -/
structure Was (w : World) (own o : Own) (v : Value) (l : List ByteArray) : Prop where
  texts : Texts w own v l
  ap : Apart own o
  un : Under w own
theorem Was.then {w w' : World} {own o : Own} {v : Value} {l : List ByteArray} (h : Was w own o v l) (hb : Below w.heap.size w w') : Was w' own o v l := ⟨OwnSl.below h.texts hb, h.ap, h.un.mv hb.size⟩
theorem Was.step {w w' : World} {own o : Own} {v : Value} {l : List ByteArray} (h : Was w own o v l) (hf : Fr o w w') : Was w' own (Grow o w w') v l :=
  ⟨OwnSl.fr h.texts hf h.ap, (hf.mv.apart h.un h.ap.symm).symm, h.un.mv hf.size⟩
theorem Was.keep {w w' : World} {own o : Own} {v : Value} {l : List ByteArray} (h : Was w own o v l) (hf : Fr o w w') : Was w' own o v l := ⟨OwnSl.fr h.texts hf h.ap, h.ap, h.un.mv hf.size⟩
/-- A drive of a pair, and what its platters once were. -/
structure Solo2 (w0 : World) (q a b : Nat) (S : Dv) (own : Own) (v : Value) (l : List ByteArray) (w : World) (o : Own) : Prop where
  solo : Solo w0 q a b S w o
  was : Was w own o v l
theorem Solo2.then {w0 w w' : World} {q a b : Nat} {S : Dv} {own o : Own} {v : Value} {l : List ByteArray} (h : Solo2 w0 q a b S own v l w o) (hb : Below w.heap.size w w') : Solo2 w0 q a b S own v l w' o := ⟨h.solo.then hb, h.was.then hb⟩
theorem Solo2.step {w0 w w' : World} {q a b : Nat} {S T : Dv} {own o : Own} {v : Value} {l : List ByteArray} (h : Solo2 w0 q a b S own v l w o) (hd : Drv w' (Grow o w w') a T) (hf : Fr o w w') (hT : T.Ok) : ∃ o', Solo2 w0 q a b T own v l w' o' :=
  ⟨_, ⟨hd, hT, hf.mv.above h.solo.above h.solo.below.size, (fun e => e.elim h.solo.nq (fun e => by have := h.solo.box.lt; omega)), h.solo.box.fr hf h.solo.nq, h.solo.below.trans (hf.below h.solo.above h.solo.below.size)⟩, h.was.step hf⟩
theorem Solo2.keep {w0 w w' : World} {q a b : Nat} {S T : Dv} {own o : Own} {v : Value} {l : List ByteArray} (h : Solo2 w0 q a b S own v l w o) (hd : Drv w' o a T) (hf : Fr o w w') (hT : T.Ok) : ∃ o', Solo2 w0 q a b T own v l w' o' := h.step (hd.growTo hf h.solo.drv.under) hf hT
theorem Solo2.same {w0 w w' : World} {q a b : Nat} {S T : Dv} {own o : Own} {v : Value} {l : List ByteArray} (h : Solo2 w0 q a b S own v l w o) (hd : Drv w' o a T) (hf : Fr o w w') (hT : T.Ok) : Solo2 w0 q a b T own v l w' o :=
  ⟨⟨hd, hT, h.solo.above, h.solo.nq, h.solo.box.fr hf h.solo.nq, h.solo.below.trans (hf.below h.solo.above h.solo.below.size)⟩, h.was.keep hf⟩
theorem Solo.was {w0 w w' : World} {q a b : Nat} {S : Dv} {o : Own} {v : Value} {l : List ByteArray} (h : Solo w0 q a b S w o) (ht : Texts w' (Grow NoOwn w w') v l) (hb : Below w.heap.size w w') : Solo2 w0 q a b S (Grow NoOwn w w') v l w' o :=
  ⟨h.then hb, ⟨ht, fun k e1 e2 => by
    have := h.drv.under k e2
    rcases e1 with e1 | e1
    · exact e1
    · omega, fun k e => by
    rcases e with e | e
    · exact e.elim
    · exact e.2⟩⟩
theorem field_term (x y : Bool) (t : Int) (W : World) : (Instr.field 70 (.agg #[.bool x, .bool y, .int .i64 t]) 2).run Try.prog W = .ok (.int .i64 t) W := by kernel_rfl
/-- A call lies in block q. -/
def OpBox (w : World) (q : Nat) (x : Opr) : Prop := w.heap[q]? = some (.cells (oprCells x).toArray 80 (0, 0))
theorem OpBox.lt {w : World} {q : Nat} {x : Opr} (h : OpBox w q x) : q < w.heap.size := (Array.getElem?_eq_some_iff.1 h).1
theorem OpBox.below {w w' : World} {q : Nat} {x : Opr} (h : OpBox w q x) (hb : Below w.heap.size w w') : OpBox w' q x := (hb.block q h.lt).trans h
theorem OpBox.fr {w w' : World} {o : Own} {q : Nat} {x : Opr} (h : OpBox w q x) (hf : Fr o w w') (hn : ¬ o q) : OpBox w' q x := (hf.block q h.lt hn).trans h
theorem OpBox.cells {w : World} {q : Nat} {x : Opr} (h : OpBox w q x) : w.cell? ⟨q, 1, none⟩ = some (.int .i64 x.term) ∧ w.cell? ⟨q, 2, none⟩ = some (.int .i64 x.slot) ∧ w.cell? ⟨q, 3, none⟩ = some (.string x.data) := ⟨cell_block h 1, cell_block h 2, cell_block h 3⟩
abbrev OpCells (w' : World) (bb off : Nat) (x : Opr) : Prop := w'.cell? ⟨bb, off, none⟩ = some (.int .i64 x.kind) ∧ w'.cell? ⟨bb, off + 1, none⟩ = some (.int .i64 x.term) ∧ w'.cell? ⟨bb, off + 2, none⟩ = some (.int .i64 x.slot) ∧ w'.cell? ⟨bb, off + 3, none⟩ = some (.string x.data) ∧
  w'.cell? ⟨bb, off + 4, none⟩ = some (.int .i64 x.fault.kind) ∧ w'.cell? ⟨bb, off + 5, none⟩ = some (.int .i64 x.fault.slot) ∧ w'.cell? ⟨bb, off + 6, none⟩ = some (.int .i64 x.fault.bit) ∧ w'.cell? ⟨bb, off + 7, none⟩ = some (.int .i64 x.fault.mask) ∧ w'.cell? ⟨bb, off + 8, none⟩ = some (.int .i64 x.fault.dest)

end Go.Proofs.Ytegekmdechcikaa
