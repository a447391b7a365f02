/- New of the reference's drive. -/
import Derived.Test.YtgeopgibjmhehaaTF
namespace Go.Proofs.Ytgeopgibjmhehaa
open Go Go.RowKit Go.Sort

theorem sec_cells_one (s : Sec) : ∀ u ∈ s.cells, u.oneCell' = true := by intro u hu; simp [Sec.cells] at hu; rcases hu with rfl | rfl | rfl <;> rfl
end Go.Proofs.Ytgeopgibjmhehaa

/- Write, Erase of the reference's drive. -/
namespace Go.Proofs.Ytgeopgibjmhehaa
open Go Go.RowKit Go.Sort

theorem Ref.grow {w w' : World} {o : Own} {a : Nat} {S : Dv} (h : Ref w' o a S) (hf : Fr o w w') (hu : Under w o) : Ref w' (Grow o w w') a S := by
  obtain ⟨R, h, r⟩ := h
  exact ⟨R, h.growTo hf hu, r⟩
theorem Rel.sameBut {R S : Dv} (h : Rel R S) (t : Int) (q : List Flt) : Rel { R with term := t, pend := q } { S with term := t, pend := q } := ⟨h.claim, h.on, h.dead, rfl, rfl, h.len, h.secs⟩
theorem Rel.put {R S : Dv} (h : Rel R S) (hd : S.dead = false) (s : Int) (x : Sec) : Rel { R with secs := R.secs.set (S.at_ s) x } (S.put s x) :=
  ⟨h.claim, h.on, h.dead, h.term, h.pend, by simp [Dv.put, h.len], fun _ => by show R.secs.set _ _ = S.secs.set _ _; rw [h.secs hd]⟩
section
variable {w : World} {o p : Own} {a b c : Nat} {pv : Value} {R S : Dv}
end
end Go.Proofs.Ytgeopgibjmhehaa

/- Write of the reference's drive where faults are pending; Write, Erase. -/
namespace Go.Proofs.Ytgeopgibjmhehaa
open Go Go.RowKit Go.Sort

theorem fltCells_one (l : List Flt) : ∀ u ∈ fltCells l, u.oneCell' = true := by
  intro u hu
  obtain ⟨f, _, hf⟩ := List.mem_flatMap.1 hu
  simp [Flt.cells] at hf
  rcases hf with rfl | rfl | rfl | rfl | rfl <;> rfl
section
variable {w : World} {o p : Own} {a b c : Nat} {pv : Value} {R S : Dv}
/-- The pending faults are replaced by a new row. -/
theorem DrvB.repend {w0 WA w3 : World} (h : DrvB WA o p a b c pv R) (hf0 : Fr o w0 WA) (hu : Under w0 o) (hg : Fr NoOwn WA w3) {v3 : Value} {q : List Flt}
    (ho : OwnSl w3 (Grow NoOwn WA w3) 5 v3 q.length (fltCells q)) :
    DrvB (w3.setCell ⟨a, 5, none⟩ v3) (Grow o w0 (w3.setCell ⟨a, 5, none⟩ v3)) (Grow NoOwn WA w3) a b c v3 { R with pend := q } ∧ Fr o w0 (w3.setCell ⟨a, 5, none⟩ v3) := by
  have hf3 : Fr o w0 w3 := hf0.trans (fun _ e => .inl e) (hg.mono fun _ e => e.elim)
  have hf4 : Fr o w0 (w3.setCell ⟨a, 5, none⟩ v3) := hf3.setCell _ _ (.inl h.oa)
  have ha : a < WA.heap.size := h.vals.lt
  have hb : b < WA.heap.size := h.secs.lt
  have npa : ¬ Grow NoOwn WA w3 a := fun e => by
    rcases e with e | e
    · exact e
    · omega
  have npb : ¬ Grow NoOwn WA w3 b := fun e => by
    rcases e with e | e
    · exact e
    · omega
  have hv := (h.vals.fr hg (fun e => e)).store 5 v3 (by simp)
  refine ⟨⟨hv, (h.secs.fr hg (fun e => e)).other _ _ (Ne.symm h.ne), h.ne, OwnSl.poke ho ⟨a, 5, none⟩ v3 npa, npa, npb, fun k e => ?_, .inl h.oa, .inl h.ob, hf4.under hu, h.cap⟩, hf4⟩
  rcases e with e | e
  · exact e.elim
  · have := hf0.size
    exact .inr ⟨by omega, by simp; omega⟩
end
end Go.Proofs.Ytgeopgibjmhehaa

/- Inject of the reference's drive. -/
namespace Go.Proofs.Ytgeopgibjmhehaa
open Go Go.RowKit Go.Sort

theorem Src.fr {w w' : World} {size m : Nat} {x : Value} {xs : List Value} (h : Src w size x m xs) (hf : Fr NoOwn w w') : Src w' size x m xs := by
  refine ⟨h.1, ?_⟩
  rcases h.2 with h | ⟨ad, c, e, hc⟩
  · exact .inl h
  · refine .inr ⟨ad, c, e, fun j u hu => ?_⟩
    have h1 := hc j u hu
    have hb := hf.block (ad.add j).block (World.block_lt_of_cell? w _ h1) (fun e => e)
    rw [World.cell?_of_block hb]; exact h1
theorem OwnSl.tight {w : World} {o : Own} {size n : Nat} {v : Value} {xs : List Value} (h : OwnSl w o size v n xs) : OwnSl w (fun k => o k ∧ k < w.heap.size) size v n xs := by
  obtain ⟨h1, h2⟩ := h
  refine ⟨h1, ?_⟩
  rcases h2 with h2 | ⟨g, off, cap, a, b, c, d⟩
  · exact .inl h2
  · exact .inr ⟨g, off, cap, a, ⟨b, c⟩, c, d⟩
section
variable {w : World} {o p : Own} {a b c : Nat} {pv : Value} {R S : Dv}
end
end Go.Proofs.Ytgeopgibjmhehaa

/- A drive and its model side by side: Do. -/
namespace Go.Proofs.Ytgeopgibjmhehaa
open Go Go.RowKit Go.Sort

structure Opr where
  kind : Int
  term : Int
  slot : Int
  data : ByteArray
  fault : Flt
abbrev Opr.val (x : Opr) : Value := .agg #[.int .i64 x.kind, .int .i64 x.term, .int .i64 x.slot, .string x.data, .int .i64 x.fault.kind, .int .i64 x.fault.slot, .int .i64 x.fault.bit, .int .i64 x.fault.mask, .int .i64 x.fault.dest]
def Dv.step (S : Dv) (x : Opr) : Dv :=
  if x.kind = 1 then (S.write x.term x.slot x.data).2
  else if x.kind = 3 then (S.write x.term x.slot blank).2
  else if x.kind = 4 then (S.fence x.term).2
  else if x.kind = 5 then (S.inject x.fault).2
  else S
theorem Dv.Ok.step {S : Dv} (h : S.Ok) (x : Opr) : (S.step x).Ok := by
  unfold Dv.step
  repeat' split
  · exact h.write _ _ _
  · exact h.write _ _ _
  · exact h.fence _
  · exact h.inject _
  · exact h
theorem Dv.step_pend {S : Dv} (x : Opr) : (S.step x).pend.length ≤ S.pend.length + 1 := by
  unfold Dv.step
  repeat' split
  · exact Nat.le_succ_of_le (Dv.write_pend _ _ _)
  · exact Nat.le_succ_of_le (Dv.write_pend _ _ _)
  · exact Nat.le_succ_of_le (Dv.fence_pend _)
  · exact Dv.inject_pend _
  · omega
/-- The drive and its model, each with blocks of its own. -/
structure Both (w : World) (o1 o2 : Own) (a b : Nat) (S : Dv) : Prop where
  drv : Drv w o1 a S
  ref : Ref w o2 b S
  apart : Apart o1 o2
theorem Both.fr {w w' : World} {o1 o2 o : Own} {a b : Nat} {S : Dv} (h : Both w o1 o2 a b S) (hf : Fr o w w') (h1 : Apart o1 o) (h2 : Apart o2 o) : Both w' o1 o2 a b S := ⟨h.drv.fr hf h1, h.ref.fr hf h2, h.apart⟩
theorem Both.below {w w' : World} {o1 o2 : Own} {a b : Nat} {S : Dv} (h : Both w o1 o2 a b S) (hb : Below w.heap.size w w') : Both w' o1 o2 a b S := ⟨h.drv.below hb, h.ref.below hb, h.apart⟩
theorem Both.under {w : World} {o1 o2 : Own} {a b : Nat} {S : Dv} (h : Both w o1 o2 a b S) : Under w (Or o1 o2) := h.drv.under.or h.ref.under
/-- Both moved on. -/
def Moved (w : World) (o1 o2 : Own) (a b : Nat) (S : Dv) (w' : World) : Prop := ∃ o1' o2', Both w' o1' o2' a b S ∧ Mv (Or o1 o2) w (Or o1' o2') w'
/-- First the one, then the other. -/
theorem Both.two {w w1 w2 : World} {o1 o2 : Own} {a b : Nat} {S T : Dv} (h : Both w o1 o2 a b S) (h1 : Drv w1 (Grow o1 w w1) a T) (f1 : Fr o1 w w1) (h2 : Ref w2 (Grow o2 w1 w2) b T) (f2 : Fr o2 w1 w2) : Moved w o1 o2 a b T w2 := by
  have hd : Apart (Grow o1 w w1) o2 := f1.mv.apart h.ref.under h.apart
  refine ⟨Grow o1 w w1, Grow o2 w1 w2, ⟨h1.fr f2 hd, h2, (f2.mv.apart h1.under hd.symm).symm⟩, ?_⟩
  exact (f1.mv.left (o2 := o2)).trans (f2.mv.right (o1 := Grow o1 w w1))
theorem Both.two' {w w1 w2 : World} {o1 o2 : Own} {a b : Nat} {S T : Dv} (h : Both w o1 o2 a b S) (h1 : Ref w1 (Grow o2 w w1) b T) (f1 : Fr o2 w w1) (h2 : Drv w2 (Grow o1 w1 w2) a T) (f2 : Fr o1 w1 w2) : Moved w o1 o2 a b T w2 := by
  have hd : Apart (Grow o2 w w1) o1 := f1.mv.apart h.drv.under h.apart.symm
  refine ⟨Grow o1 w1 w2, Grow o2 w w1, ⟨h2, h1.fr f2 hd, f2.mv.apart h1.under hd.symm⟩, ?_⟩
  exact (f1.mv.right (o1 := o1)).trans (f2.mv.left (o2 := Grow o2 w w1))
theorem Moved.before {w0 w w' : World} {o1 o2 : Own} {a b : Nat} {S : Dv} (h : Moved w o1 o2 a b S w') (hb : Below w0.heap.size w0 w) : Moved w0 o1 o2 a b S w' := by
  obtain ⟨p1, p2, h1, h2⟩ := h
  exact ⟨p1, p2, h1, (Mv.ofBelow hb).trans h2⟩
theorem Moved.after {w w1 w' : World} {o1 o2 : Own} {a b : Nat} {S : Dv} (h : Moved w o1 o2 a b S w1) (hb : Below w1.heap.size w1 w') : Moved w o1 o2 a b S w' := by
  obtain ⟨p1, p2, h1, h2⟩ := h
  exact ⟨p1, p2, h1.below hb, h2.thenBelow hb⟩
theorem Both.stay {w w' : World} {o1 o2 : Own} {a b : Nat} {S : Dv} (h : Both w o1 o2 a b S) (hb : Below w.heap.size w w') : Moved w o1 o2 a b S w' := ⟨o1, o2, h.below hb, Mv.ofBelow hb⟩

abbrev oprCells (x : Opr) : List Value := [.int .i64 x.kind, .int .i64 x.term, .int .i64 x.slot, .string x.data, .int .i64 x.fault.kind, .int .i64 x.fault.slot, .int .i64 x.fault.bit, .int .i64 x.fault.mask, .int .i64 x.fault.dest]
end Go.Proofs.Ytgeopgibjmhehaa

/- Do: the calls that write. (Printed by wip/tools/mkdo.py.) -/
namespace Go.Proofs.Ytgeopgibjmhehaa
open Go Go.RowKit Go.Sort

section
variable {w : World} {o1 o2 : Own} {a b : Nat} {S : Dv}
end
end Go.Proofs.Ytgeopgibjmhehaa

/- Do; Alike; Make. -/
namespace Go.Proofs.Ytgeopgibjmhehaa
open Go Go.RowKit Go.Sort

theorem Ref.slots {w : World} {o : Own} {a : Nat} {S : Dv} (h : Ref w o a S) : w.cell? ⟨a, 0, none⟩ = some (.int .i64 S.claim) := by
  obtain ⟨R, ⟨p, b, c, pv, h⟩, hr⟩ := h
  have := h.cells.1
  rwa [hr.claim] at this
theorem Ref.lt {w : World} {o : Own} {a : Nat} {S : Dv} (h : Ref w o a S) : a < w.heap.size := by
  obtain ⟨R, ⟨p, b, c, pv, h⟩, hr⟩ := h
  exact h.vals.lt
theorem int_self (x : Int) : (x == x) = true := by simp
section
variable {w : World} {o1 o2 : Own} {a b : Nat} {S : Dv}
theorem results_cell_pair {P : Program} {fn : Func} {p q : Tmp} {ty : TypeId} (h : fn.results = #[.cell p ty, .tmp q]) (tmps : Array Value) (w : World) (g : Nat) (t : TypeId) (cs : Array Value) (fr : Nat × Nat) (d : TypeDesc)
    (hp : tmps.getD p undef = .pointer (some ⟨g, 0, none⟩)) (hg : w.heap[g]? = some (.cells cs t fr))
    (hu : P.underlying ty = some d) (hd : (match d with | .struct _ | .array _ _ => true | _ => false) = true) (hi : (P.info? ty).map (·.size) = some cs.size) :
    (results fn tmps).run P w = .ok (.tuple #[.agg cs, tmps.getD q undef]) w := by
  have hp' : tmps[p]?.getD undef = .pointer (some ⟨g, 0, none⟩) := by simpa using hp
  simp [results, h, hp', asAddr, run_loadVar_row w g t ty cs fr d hg hu hd hi]
theorem pair_one (p q : Option Addr) : (#[Value.pointer p, .pointer q]).all (·.oneCell') = true := by kernel_rfl
/-- The sizes that Make takes. -/
def mkC (c : Int) : Int := 1 + c % 128
def mkR (c r : Int) : Nat := (1 + r % mkC c).toNat
theorem mk_ok (c r : Int) : 1 ≤ mkR c r ∧ (mkR c r : Int) ≤ mkC c ∧ mkC c ≤ 128 ∧ (mkR c r : Int) = 1 + r % mkC c := by
  have h0 := Int.emod_nonneg c (show (128 : Int) ≠ 0 by decide)
  have h1 := Int.emod_lt_of_pos c (show (0 : Int) < 128 by decide)
  have h2 : 0 < mkC c := by unfold mkC; omega
  have h3 := Int.emod_nonneg r (show mkC c ≠ 0 by omega)
  have h4 := Int.emod_lt_of_pos r h2
  unfold mkR
  refine ⟨by omega, by omega, by unfold mkC; omega, by omega⟩
end
end Go.Proofs.Ytgeopgibjmhehaa
