/- What a drive is: its state, what its calls do, in plain terms; how it lies in memory. -/
import Derived.Test.YtgeopgibjmhehaaEFr
import Derived.Test.YtgeopgibjmhehaaTC
import Derived.Test.YtgeopgibjmhehaaDNew
namespace Go.Proofs.Ytgeopgibjmhehaa
open Go Go.RowKit Go.Sort

/-- A fault. -/
structure Flt where
  kind : Int
  slot : Int
  bit : Int
  mask : Int
  dest : Int
def Flt.cells (f : Flt) : List Value := [.int .i64 f.kind, .int .i64 f.slot, .int .i64 f.bit, .int .i64 f.mask, .int .i64 f.dest]
abbrev Flt.val (f : Flt) : Value := .agg #[.int .i64 f.kind, .int .i64 f.slot, .int .i64 f.bit, .int .i64 f.mask, .int .i64 f.dest]
/-- What a drive is. -/
structure Dv where
  claim : Int
  secs : List Sec
  off : Bool
  dead : Bool
  term : Int
  pend : List Flt
namespace Dv
def online (S : Dv) : Bool := !S.dead && !S.off
def slot (S : Dv) (s : Int) : Bool := decide (0 ≤ s ∧ s < S.claim)
def at_ (S : Dv) (s : Int) : Nat := (s % (S.secs.length : Int)).toNat
def get (S : Dv) (s : Int) : Sec := S.secs.getD (S.at_ s) rawSec
def read (S : Dv) (s : Int) : ByteArray × Int :=
  if S.online = false then (⟨#[]⟩, 105) else if S.slot s = false then (⟨#[]⟩, 5) else if (S.get s).un = true then (⟨#[]⟩, 107) else ((S.get s).data, 0)
def put (S : Dv) (s : Int) (x : Sec) : Dv := { S with secs := S.secs.set (S.at_ s) x }
/-- Behind the checks. -/
def store (S : Dv) (s : Int) (d : ByteArray) : Dv :=
  match S.pend with
  | [] => S.put s ⟨d, false, false⟩
  | f :: r => if f.kind = 5 then { S with pend := r } else Dv.put { S with pend := r } f.dest ⟨d, false, false⟩
def write (S : Dv) (t s : Int) (d : ByteArray) : Int × Dv :=
  if S.online = false then (105, S) else if t < S.term then (106, S) else if S.slot s = false then (5, S) else if d.size ≠ 36 then (101, S)
  else (0, Dv.store { S with term := t } s d)
def fence (S : Dv) (t : Int) : Int × Dv :=
  if S.online = false then (105, S) else if t < S.term then (106, S) else (0, { S with term := t })
def valid (claim : Int) (f : Flt) : Bool :=
  if f.kind = 1 ∨ f.kind = 2 ∨ f.kind = 3 ∨ f.kind = 5 then true
  else if f.kind = 7 then decide (0 ≤ f.slot ∧ f.slot < claim)
  else if f.kind = 4 then decide ((0 ≤ f.slot ∧ f.slot < claim) ∧ 0 ≤ f.bit ∧ f.bit < 288 ∧ 1 ≤ f.mask ∧ f.mask ≤ 4294967295)
  else if f.kind = 6 then decide (0 ≤ f.dest ∧ f.dest < claim)
  else false
end Dv
/-- The bits of a mask, flipped. -/
def flipD (d : ByteArray) (bit mask : Int) : ByteArray := ⟨(flipL d.data.toList bit.toNat (BitVec.ofInt 32 mask) 32).toArray⟩
def Sec.flip (s : Sec) (bit mask : Int) : Sec := if s.dam = true then s else ⟨flipD s.data bit mask, s.un, true⟩
namespace Dv
def die (S : Dv) : Dv := { S with dead := true, off := true, pend := [], secs := List.replicate S.secs.length blankSec }
def happen (S : Dv) (f : Flt) : Dv :=
  if f.kind = 3 then S.die
  else if f.kind = 1 then { S with off := true }
  else if f.kind = 2 then { S with off := false }
  else if f.kind = 4 then S.put f.slot ((S.get f.slot).flip f.bit f.mask)
  else if f.kind = 7 then S.put f.slot { S.get f.slot with un := true }
  else { S with pend := S.pend ++ [f] }
def inject (S : Dv) (f : Flt) : Int × Dv :=
  if valid S.claim f = false then (108, S) else if S.dead = true then (0, S) else (0, S.happen f)
def platters (S : Dv) : List ByteArray := if S.dead = true then [] else S.secs.map fun s => if s.un = true then ⟨#[]⟩ else s.data
/-- What holds of every drive that New made. -/
structure Ok (S : Dv) : Prop where
  one : 1 ≤ S.secs.length
  le : (S.secs.length : Int) ≤ S.claim
  top : S.claim ≤ 128
  data : ∀ s ∈ S.secs, s.data.size = 36
  pend : ∀ f ∈ S.pend, f.kind = 5 ∨ (0 ≤ f.dest ∧ f.dest < S.claim)
theorem at_lt {S : Dv} (h : S.Ok) (s : Int) : S.at_ s < S.secs.length := by
  have h1 := h.one
  unfold Dv.at_
  have := Int.emod_lt_of_pos s (show (0 : Int) < S.secs.length by omega)
  have := Int.emod_nonneg s (show (S.secs.length : Int) ≠ 0 by omega)
  omega
theorem get_mem {S : Dv} (h : S.Ok) (s : Int) : S.get s ∈ S.secs := by
  have := S.at_lt h s
  unfold Dv.get
  rw [List.getD_eq_getElem?_getD, List.getElem?_eq_getElem this]
  exact List.getElem_mem _
theorem get_size {S : Dv} (h : S.Ok) (s : Int) : (S.get s).data.size = 36 := h.data _ (S.get_mem h s)
theorem get_eq {S : Dv} (h : S.Ok) (s : Int) : S.get s = S.secs[S.at_ s]'(S.at_lt h s) := by
  unfold Dv.get
  rw [List.getD_eq_getElem?_getD, List.getElem?_eq_getElem (S.at_lt h s)]; rfl
theorem Ok.put {S : Dv} (h : S.Ok) (s : Int) (x : Sec) (hx : x.data.size = 36) : (S.put s x).Ok := by
  refine ⟨by simpa [Dv.put] using h.one, by simpa [Dv.put] using h.le, h.top, fun y hy => ?_, h.pend⟩
  rcases List.mem_or_eq_of_mem_set hy with e | e
  · exact h.data y e
  · rw [e]; exact hx
theorem Ok.same {S T : Dv} (h : S.Ok) (e1 : T.claim = S.claim) (e2 : T.secs = S.secs) (e3 : ∀ f ∈ T.pend, f ∈ S.pend) : T.Ok :=
  ⟨by rw [e2]; exact h.one, by rw [e1, e2]; exact h.le, by rw [e1]; exact h.top, by rw [e2]; exact h.data, fun f hf => by rw [e1]; exact h.pend f (e3 f hf)⟩
theorem Ok.store {S : Dv} (h : S.Ok) (s : Int) (d : ByteArray) (hd : d.size = 36) : (S.store s d).Ok := by
  unfold Dv.store
  cases e : S.pend with
  | nil => exact h.put s _ hd
  | cons f r =>
    have hr : ({ S with pend := r } : Dv).Ok := h.same rfl rfl (fun x hx => by rw [e]; exact List.mem_cons_of_mem _ hx)
    by_cases hk : f.kind = 5
    · simpa [hk] using hr
    · simpa [hk] using hr.put f.dest _ hd
theorem Ok.write {S : Dv} (h : S.Ok) (t s : Int) (d : ByteArray) : (S.write t s d).2.Ok := by
  unfold Dv.write
  split
  · exact h
  · split
    · exact h
    · split
      · exact h
      · split
        · exact h
        · rename_i hd
          exact Ok.store (S := { S with term := t }) (h.same rfl rfl (fun _ e => e)) s d (by omega)
theorem Ok.fence {S : Dv} (h : S.Ok) (t : Int) : (S.fence t).2.Ok := by
  unfold Dv.fence
  split
  · exact h
  · split
    · exact h
    · exact h.same rfl rfl (fun _ e => e)
theorem flipD_size (d : ByteArray) (b m : Int) : (flipD d b m).size = d.size := by
  show (flipL d.data.toList b.toNat (BitVec.ofInt 32 m) 32).length = _
  rw [flipL_length]; simp
theorem flip_size (s : Sec) (b m : Int) : (s.flip b m).data.size = s.data.size := by
  unfold Sec.flip
  split
  · rfl
  · exact flipD_size _ _ _
theorem Ok.inject {S : Dv} (h : S.Ok) (f : Flt) : (S.inject f).2.Ok := by
  unfold Dv.inject
  by_cases hv : valid S.claim f = false
  · rw [if_pos hv]; exact h
  · rw [if_neg hv]
    by_cases hd : S.dead = true
    · rw [if_pos hd]; exact h
    · rw [if_neg hd]
      show (S.happen f).Ok
      unfold Dv.happen
      by_cases h3 : f.kind = 3
      · rw [if_pos h3]
        refine ⟨by simpa [die] using h.one, by simpa [die] using h.le, h.top, fun y hy => ?_, fun y hy => by simp [die] at hy⟩
        rw [(List.mem_replicate.1 hy).2]
        rfl
      rw [if_neg h3]
      by_cases h1 : f.kind = 1
      · rw [if_pos h1]; exact h.same rfl rfl (fun _ e => e)
      rw [if_neg h1]
      by_cases h2 : f.kind = 2
      · rw [if_pos h2]; exact h.same rfl rfl (fun _ e => e)
      rw [if_neg h2]
      by_cases h4 : f.kind = 4
      · rw [if_pos h4]; exact h.put _ _ (by rw [flip_size]; exact S.get_size h _)
      rw [if_neg h4]
      by_cases h7 : f.kind = 7
      · rw [if_pos h7]; exact h.put _ _ (S.get_size h _)
      rw [if_neg h7]
      refine ⟨h.one, h.le, h.top, h.data, fun y hy => ?_⟩
      rcases List.mem_append.1 hy with e | e
      · exact h.pend y e
      · rw [List.mem_singleton] at e
        subst e
        by_cases h5 : y.kind = 5
        · exact .inl h5
        · right
          unfold valid at hv
          rw [if_neg (by omega), if_neg h7, if_neg h4] at hv
          by_cases h6 : y.kind = 6
          · rw [if_pos h6] at hv
            simpa using hv
          · rw [if_neg h6] at hv; exact absurd rfl hv
theorem store_pend {S : Dv} (s : Int) (d : ByteArray) : (S.store s d).pend.length ≤ S.pend.length := by
  unfold Dv.store
  cases e : S.pend with
  | nil => simp [Dv.put, e]
  | cons f r => by_cases hk : f.kind = 5 <;> simp [hk, Dv.put]
theorem write_pend {S : Dv} (t s : Int) (d : ByteArray) : (S.write t s d).2.pend.length ≤ S.pend.length := by
  unfold Dv.write
  repeat' split
  all_goals first | exact Nat.le_refl _ | exact store_pend (S := { S with term := t }) s d
theorem inject_pend {S : Dv} (f : Flt) : (S.inject f).2.pend.length ≤ S.pend.length + 1 := by
  unfold Dv.inject
  repeat' split
  all_goals first | omega | skip
  show (S.happen f).pend.length ≤ _
  unfold Dv.happen
  repeat' split
  all_goals simp [die, Dv.put]
theorem fence_pend {S : Dv} (t : Int) : (S.fence t).2.pend.length ≤ S.pend.length := by
  unfold Dv.fence
  repeat' split
  all_goals exact Nat.le_refl _
end Dv

/-- The cells of the pending faults. -/
def fltCells (l : List Flt) : List Value := l.flatMap Flt.cells
theorem fltCells_length (l : List Flt) : (fltCells l).length = l.length * 5 := by
  induction l with
  | nil => rfl
  | cons f l ih => unfold fltCells at *; simp [Flt.cells, ih]; omega
/-- The drive of the program lies in block a, its sectors in block b (c: capacity), pending faults in the slice pv, in a block of p. -/
structure DrvB (w : World) (o p : Own) (a b c : Nat) (pv : Value) (S : Dv) : Prop where
  vals : ValsAt w a [.int .i64 S.claim, .slice (some ⟨b, 0, none⟩) S.secs.length c, .bool S.off, .bool S.dead, .int .i64 S.term, pv]
  secs : SecsAt w b S.secs
  ne : a ≠ b
  pend : OwnSl w p 5 pv S.pend.length (fltCells S.pend)
  pa : ¬ p a
  pb : ¬ p b
  po : ∀ k, p k → o k
  oa : o a
  ob : o b
  un : Under w o
  cap : S.secs.length ≤ c ∧ c ≤ maxLen
def Drv (w : World) (o : Own) (a : Nat) (S : Dv) : Prop := ∃ p b c pv, DrvB w o p a b c pv S
theorem ValsAt.fr {w w' : World} {o : Own} {b : Nat} {l : List Value} (h : ValsAt w b l) (hf : Fr o w w') (hb : ¬ o b) : ValsAt w' b l := h.of_block hf.size (hf.block b h.lt hb)
theorem SecsAt.fr {w w' : World} {o : Own} {b : Nat} {l : List Sec} (h : SecsAt w b l) (hf : Fr o w w') (hb : ¬ o b) : SecsAt w' b l := h.of_block hf.size (hf.block b h.lt hb)
section
variable {w w' : World} {o o2 p : Own} {a b c : Nat} {pv : Value} {S : Dv}
theorem DrvB.fr (h : DrvB w o p a b c pv S) (hf : Fr o2 w w') (hd : Apart o o2) : DrvB w' o p a b c pv S :=
  ⟨h.vals.fr hf (fun e => hd _ h.oa e), h.secs.fr hf (fun e => hd _ h.ob e), h.ne, h.pend.fr hf (fun k x y => hd k (h.po k x) y), h.pa, h.pb, h.po, h.oa, h.ob, h.un.mv hf.size, h.cap⟩
theorem DrvB.mono (h : DrvB w o p a b c pv S) (hm : ∀ k, o k → o2 k) (hu : Under w o2) : DrvB w o2 p a b c pv S :=
  ⟨h.vals, h.secs, h.ne, h.pend, h.pa, h.pb, fun k e => hm k (h.po k e), hm _ h.oa, hm _ h.ob, hu, h.cap⟩
theorem DrvB.drewN (h : DrvB w o p a b c pv S) (n : Nat) : DrvB (w.drewN n) o p a b c pv S := h.fr (o2 := NoOwn) ((Fr.refl _ _).drewN n) (fun _ _ e => e)
theorem DrvB.below (h : DrvB w o p a b c pv S) (hb : Below w.heap.size w w') : DrvB w' o p a b c pv S := h.fr (o2 := NoOwn) (.ofBelow hb) (fun _ _ e => e)
theorem Drv.fr (h : Drv w o a S) (hf : Fr o2 w w') (hd : Apart o o2) : Drv w' o a S := by
  obtain ⟨p, b, c, pv, h⟩ := h
  exact ⟨p, b, c, pv, h.fr hf hd⟩
theorem Drv.below (h : Drv w o a S) (hb : Below w.heap.size w w') : Drv w' o a S := h.fr (o2 := NoOwn) (.ofBelow hb) (fun _ _ e => e)
theorem Drv.under (h : Drv w o a S) : Under w o := by
  obtain ⟨p, b, c, pv, h⟩ := h
  exact h.un
theorem Drv.grow (h : Drv w o a S) (hb : Below w.heap.size w w') : Drv w' (Grow o w w') a S := by
  obtain ⟨p, b, c, pv, h⟩ := h
  exact ⟨p, b, c, pv, (h.below hb).mono (fun _ e => .inl e) ((Fr.ofBelow hb).under h.un)⟩
theorem DrvB.cells (h : DrvB w o p a b c pv S) :
    w.cell? ⟨a, 0, none⟩ = some (.int .i64 S.claim) ∧ w.cell? ⟨a, 1, none⟩ = some (.slice (some ⟨b, 0, none⟩) S.secs.length c) ∧ w.cell? ⟨a, 2, none⟩ = some (.bool S.off) ∧ w.cell? ⟨a, 3, none⟩ = some (.bool S.dead) ∧ w.cell? ⟨a, 4, none⟩ = some (.int .i64 S.term) ∧ w.cell? ⟨a, 5, none⟩ = some pv :=
  ⟨h.vals.cell 0 (by simp), h.vals.cell 1 (by simp), h.vals.cell 2 (by simp), h.vals.cell 3 (by simp), h.vals.cell 4 (by simp), h.vals.cell 5 (by simp)⟩
theorem DrvB.free (h : DrvB w o p a b c pv S) (k : Nat) (hk : k < 6) : w.frozen? ⟨a, k, none⟩ = false := h.vals.free k (by simpa using hk)
/-- One of the drive's own cells is stored. -/
theorem DrvB.poke (h : DrvB w o p a b c pv S) (k : Nat) (x : Value) (hk : k < 6) {S' : Dv} {pv' : Value} {p' : Own}
    (hv : [Value.int .i64 S.claim, .slice (some ⟨b, 0, none⟩) S.secs.length c, .bool S.off, .bool S.dead, .int .i64 S.term, pv].set k x = [.int .i64 S'.claim, .slice (some ⟨b, 0, none⟩) S'.secs.length c, .bool S'.off, .bool S'.dead, .int .i64 S'.term, pv'])
    (hs : S'.secs = S.secs) (hp : OwnSl (w.setCell ⟨a, k, none⟩ x) p' 5 pv' S'.pend.length (fltCells S'.pend)) (hpa : ¬ p' a) (hpb : ¬ p' b) (hpo : ∀ k, p' k → o k) : DrvB (w.setCell ⟨a, k, none⟩ x) o p' a b c pv' S' := by
  have h1 := h.vals.store k x (by simpa using hk)
  rw [hv] at h1
  exact ⟨h1, by rw [hs]; exact h.secs.other _ _ (Ne.symm h.ne), h.ne, hp, hpa, hpb, hpo, h.oa, h.ob, h.un.mv (by simp), by rw [hs]; exact h.cap⟩
theorem OwnSl.poke {n size : Nat} {v : Value} {xs : List Value} (h : OwnSl w p size v n xs) (ad : Addr) (x : Value) (ha : ¬ p ad.block) : OwnSl (w.setCell ad x) p size v n xs :=
  h.fr (o2 := fun k => k = ad.block) ((Fr.refl _ _).setCell ad x (.inl rfl)) (fun _ e1 e2 => ha (e2 ▸ e1))
theorem DrvB.term (h : DrvB w o p a b c pv S) (t : Int) : DrvB (w.setCell ⟨a, 4, none⟩ (.int .i64 t)) o p a b c pv { S with term := t } :=
  h.poke 4 _ (by omega) rfl rfl (h.pend.poke _ _ h.pa) h.pa h.pb h.po
theorem DrvB.offTo (h : DrvB w o p a b c pv S) (t : Bool) : DrvB (w.setCell ⟨a, 2, none⟩ (.bool t)) o p a b c pv { S with off := t } :=
  h.poke 2 _ (by omega) rfl rfl (h.pend.poke _ _ h.pa) h.pa h.pb h.po
theorem DrvB.deadTo (h : DrvB w o p a b c pv S) (t : Bool) : DrvB (w.setCell ⟨a, 3, none⟩ (.bool t)) o p a b c pv { S with dead := t } :=
  h.poke 3 _ (by omega) rfl rfl (h.pend.poke _ _ h.pa) h.pa h.pb h.po
theorem OwnSl.pokes {n size : Nat} {v : Value} {xs : List Value} (b i : Nat) (cs : List Value) (h : OwnSl w p size v n xs) (hb : ¬ p b) : OwnSl (w.setCells b i cs) p size v n xs :=
  h.fr (o2 := fun k => k = b) (Fr.setCells (o := fun k => k = b) (.inl rfl) cs i w (Fr.refl _ _)) (fun _ e1 e2 => hb (e2 ▸ e1))
/-- A sector is stored. -/
theorem DrvB.write (h : DrvB w o p a b c pv S) (i : Nat) (s : Sec) (hi : i < S.secs.length) : DrvB (w.setCells b (i * 3) s.cells) o p a b c pv { S with secs := S.secs.set i s } :=
  ⟨by
    have := ValsAt.setCells h.vals h.ne s.cells (i * 3) w h.vals
    simpa using this, h.secs.store i s hi, h.ne, h.pend.pokes b _ _ h.pb, h.pa, h.pb, h.po, h.oa, h.ob, h.un.mv (by rw [size_setCells]; exact Nat.le_refl _), by simpa using h.cap⟩
end
end Go.Proofs.Ytgeopgibjmhehaa
