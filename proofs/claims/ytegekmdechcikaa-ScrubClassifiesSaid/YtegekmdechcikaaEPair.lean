/- A drive and its model side by side: Do. -/
import Derived.Test.YtegekmdechcikaaERefI
namespace Go.Proofs.Ytegekmdechcikaa
open Go Go.RowKit Go.Sort

structure Opr where
  kind : Int
  term : Int
  slot : Int
  data : ByteArray
  fault : Flt
abbrev Opr.val (x : Opr) : Value := .agg #[.int .i64 x.kind, .int .i64 x.term, .int .i64 x.slot, .string x.data, .int .i64 x.fault.kind, .int .i64 x.fault.slot, .int .i64 x.fault.bit, .int .i64 x.fault.mask, .int .i64 x.fault.dest]
def Dv.step (S : Dv) (x : Opr) : Dv :=
  if x.kind = 1 then (S.write x.term x.slot x.data).2
  else if x.kind = 3 then (S.write x.term x.slot blank).2
  else if x.kind = 4 then (S.fence x.term).2
  else if x.kind = 5 then (S.inject x.fault).2
  else S
theorem Dv.Ok.step {S : Dv} (h : S.Ok) (x : Opr) : (S.step x).Ok := by
  unfold Dv.step
  repeat' split
  · exact h.write _ _ _
  · exact h.write _ _ _
  · exact h.fence _
  · exact h.inject _
  · exact h
theorem Dv.step_pend {S : Dv} (x : Opr) : (S.step x).pend.length ≤ S.pend.length + 1 := by
  unfold Dv.step
  repeat' split
  · exact Nat.le_succ_of_le (Dv.write_pend _ _ _)
  · exact Nat.le_succ_of_le (Dv.write_pend _ _ _)
  · exact Nat.le_succ_of_le (Dv.fence_pend _)
  · exact Dv.inject_pend _
  · omega
/-- The drive and its model, each with blocks of its own. -/
structure Both (w : World) (o1 o2 : Own) (a b : Nat) (S : Dv) : Prop where
  drv : Drv w o1 a S
  ref : Ref w o2 b S
  apart : Apart o1 o2
theorem Both.fr {w w' : World} {o1 o2 o : Own} {a b : Nat} {S : Dv} (h : Both w o1 o2 a b S) (hf : Fr o w w') (h1 : Apart o1 o) (h2 : Apart o2 o) : Both w' o1 o2 a b S := ⟨h.drv.fr hf h1, h.ref.fr hf h2, h.apart⟩
theorem Both.below {w w' : World} {o1 o2 : Own} {a b : Nat} {S : Dv} (h : Both w o1 o2 a b S) (hb : Below w.heap.size w w') : Both w' o1 o2 a b S := ⟨h.drv.below hb, h.ref.below hb, h.apart⟩
theorem Both.under {w : World} {o1 o2 : Own} {a b : Nat} {S : Dv} (h : Both w o1 o2 a b S) : Under w (Or o1 o2) := h.drv.under.or h.ref.under
/-- Both moved on. -/
def Moved (w : World) (o1 o2 : Own) (a b : Nat) (S : Dv) (w' : World) : Prop := ∃ o1' o2', Both w' o1' o2' a b S ∧ Mv (Or o1 o2) w (Or o1' o2') w'
/-- First the one, then the other. -/
theorem Both.two {w w1 w2 : World} {o1 o2 : Own} {a b : Nat} {S T : Dv} (h : Both w o1 o2 a b S) (h1 : Drv w1 (Grow o1 w w1) a T) (f1 : Fr o1 w w1) (h2 : Ref w2 (Grow o2 w1 w2) b T) (f2 : Fr o2 w1 w2) : Moved w o1 o2 a b T w2 := by
  have hd : Apart (Grow o1 w w1) o2 := f1.mv.apart h.ref.under h.apart
  refine ⟨Grow o1 w w1, Grow o2 w1 w2, ⟨h1.fr f2 hd, h2, (f2.mv.apart h1.under hd.symm).symm⟩, ?_⟩
  exact (f1.mv.left (o2 := o2)).trans (f2.mv.right (o1 := Grow o1 w w1))
theorem Both.two' {w w1 w2 : World} {o1 o2 : Own} {a b : Nat} {S T : Dv} (h : Both w o1 o2 a b S) (h1 : Ref w1 (Grow o2 w w1) b T) (f1 : Fr o2 w w1) (h2 : Drv w2 (Grow o1 w1 w2) a T) (f2 : Fr o1 w1 w2) : Moved w o1 o2 a b T w2 := by
  have hd : Apart (Grow o2 w w1) o1 := f1.mv.apart h.drv.under h.apart.symm
  refine ⟨Grow o1 w1 w2, Grow o2 w w1, ⟨h2, h1.fr f2 hd, f2.mv.apart h1.under hd.symm⟩, ?_⟩
  exact (f1.mv.right (o1 := o1)).trans (f2.mv.left (o2 := Grow o2 w w1))
theorem Moved.before {w0 w w' : World} {o1 o2 : Own} {a b : Nat} {S : Dv} (h : Moved w o1 o2 a b S w') (hb : Below w0.heap.size w0 w) : Moved w0 o1 o2 a b S w' := by
  obtain ⟨p1, p2, h1, h2⟩ := h
  exact ⟨p1, p2, h1, (Mv.ofBelow hb).trans h2⟩
theorem Moved.after {w w1 w' : World} {o1 o2 : Own} {a b : Nat} {S : Dv} (h : Moved w o1 o2 a b S w1) (hb : Below w1.heap.size w1 w') : Moved w o1 o2 a b S w' := by
  obtain ⟨p1, p2, h1, h2⟩ := h
  exact ⟨p1, p2, h1.below hb, h2.thenBelow hb⟩
theorem Both.stay {w w' : World} {o1 o2 : Own} {a b : Nat} {S : Dv} (h : Both w o1 o2 a b S) (hb : Below w.heap.size w w') : Moved w o1 o2 a b S w' := ⟨o1, o2, h.below hb, Mv.ofBelow hb⟩

abbrev oprCells (x : Opr) : List Value := [.int .i64 x.kind, .int .i64 x.term, .int .i64 x.slot, .string x.data, .int .i64 x.fault.kind, .int .i64 x.fault.slot, .int .i64 x.fault.bit, .int .i64 x.fault.mask, .int .i64 x.fault.dest]
end Go.Proofs.Ytegekmdechcikaa
