/- From a walk to a row: what every law of this seat shares. -/
import Derived.Test.YtpoaadjhaknhdaaRows
import Derived.ProofKit
import Derived.Carry
import Derived.Lib.SmallJoins
namespace Go.Proofs.Ytpoaadjhaknhdaa
open Go.ChangeShapes Go.WideShapes Go.ChangeAt Go.RowKit Go.Joins Go.Deep

theorem own_knob : ownKnob Try.prog.godebug = none := by kernel_rfl
theorem laid_out : laidOutB Try.prog = true := by kernel_rfl

section
variable {H : Type} {enc : TypeId × Value → H} {P : Program} {w : World} {base : Nat} {spare : Nat → Bool} {held : Bool}
/-- A piece that came in by value: its five numbers and its data. -/
theorem open_piece {r : Reach} {b0 : Nat} {t : TypeId} {f0 f1 f2 f3 f4 f5 : Field} {x : Value} {dx : DataW H} {ps : List MemPlace} (hs : P.underlying t = some (.struct #[f0, f1, f2, f3, f4, f5]))
    (hone : oneCellFields P #[f0, f1, f2, f3, f4, f5] = true) (hC : P.cellsOf t = 6)
    (h0 : P.underlying f0.type = some (.int .i64)) (h1 : P.underlying f1.type = some (.int .i64)) (h2 : P.underlying f2.type = some (.int .i64)) (h3 : P.underlying f3.type = some (.int .i64)) (h4 : P.underlying f4.type = some (.int .i64)) (h5 : P.underlying f5.type = some .string)
    (hv : Value.okWide P w r b0 t x) (h : DataW.Trod enc P w base spare held t x dx ps) :
    ∃ (v f s g ve : Int) (d : ByteArray), x = .agg #[.int .i64 v, .int .i64 f, .int .i64 s, .int .i64 g, .int .i64 ve, .string d] ∧ d.size ≤ maxLen := by
  obtain ⟨⟨cells⟩, rfl, hsize⟩ := okWide_struct hs hv
  obtain ⟨k, hk⟩ := h
  obtain ⟨xs, n, _, _, _, hxl, hfield⟩ := DataW.trod_struct hs hk
  match cells, hsize.trans hC with
  | [a0, a1, a2, a3, a4, a5], _ =>
    have one : ∀ j f, (#[f0, f1, f2, f3, f4, f5] : Array Field)[j]? = some f → _ := fun j f hj => hone_of hone j f hj
    have z0 := hfield 0 f0 rfl
    have z1 := hfield 1 f1 rfl
    have z2 := hfield 2 f2 rfl
    have z3 := hfield 3 f3 rfl
    have z4 := hfield 4 f4 rfl
    have z5 := hfield 5 f5 rfl
    simp only [(one 0 f0 rfl).1, (one 0 f0 rfl).2, (one 1 f1 rfl).1, (one 1 f1 rfl).2, (one 2 f2 rfl).1, (one 2 f2 rfl).2, (one 3 f3 rfl).1, (one 3 f3 rfl).2, (one 4 f4 rfl).1, (one 4 f4 rfl).2, (one 5 f5 rfl).1, (one 5 f5 rfl).2] at z0 z1 z2 z3 z4 z5
    have hx : ∀ j, j < 6 → ∃ y, xs[j]? = some y := fun j hj => ⟨_, List.getElem?_eq_getElem (by rw [hxl]; exact hj)⟩
    obtain ⟨y0, e0⟩ := hx 0 (by omega)
    obtain ⟨y1, e1⟩ := hx 1 (by omega)
    obtain ⟨y2, e2⟩ := hx 2 (by omega)
    obtain ⟨y3, e3⟩ := hx 3 (by omega)
    obtain ⟨y4, e4⟩ := hx 4 (by omega)
    obtain ⟨y5, e5⟩ := hx 5 (by omega)
    obtain ⟨v, u0, _, _⟩ := DataW.trod_int h0 (z0.trans e0)
    obtain ⟨f, u1, _, _⟩ := DataW.trod_int h1 (z1.trans e1)
    obtain ⟨s, u2, _, _⟩ := DataW.trod_int h2 (z2.trans e2)
    obtain ⟨g, u3, _, _⟩ := DataW.trod_int h3 (z3.trans e3)
    obtain ⟨ve, u4, _, _⟩ := DataW.trod_int h4 (z4.trans e4)
    obtain ⟨d, u5, _, hd⟩ := DataW.trod_string h5 (z5.trans e5)
    simp [Value.cells] at u0 u1 u2 u3 u4 u5
    subst u0 u1 u2 u3 u4 u5
    exact ⟨v, f, s, g, ve, d, rfl, hd⟩
end

section
variable {H : Type} {enc : TypeId × Value → H} {P : Program}
theorem trodAll_below (hl : laidOutB P = true) {W W' : World} (hb : Below W.heap.size W W') : ∀ (ts : List TypeId) (vs : List Value) (ds : List (DataW H)) (ps : List MemPlace),
    (∀ t ∈ ts, P.readableRec t = true ∧ t < P.types.size) → DataW.TrodAll enc P W 0 (fun _ => true) true ts vs ds ps → (∀ x ∈ ps, x.block < W.heap.size) →
    DataW.TrodAll enc P W' 0 (fun b => decide (b < W.heap.size)) true ts vs ds ps
  | [], vs, ds, ps, _, h, _ => by
    obtain ⟨rfl, rfl, rfl⟩ := trodAll_nil h
    rfl
  | t :: ts, vs, ds, ps, hp, h, hlt => by
    obtain ⟨v, vs', d, ds', p, q, rfl, rfl, rfl, h1, h2⟩ := trodAll_cons h
    obtain ⟨hr, hs⟩ := hp t (by simp)
    exact ⟨p, q, Below.trod hl hr hs h1 hb (fun x hx => hlt x (by simp [hx])), trodAll_below hl hb ts vs' ds' q (fun t ht => hp t (by simp [ht])) h2 (fun x hx => hlt x (by simp [hx])), rfl⟩

/-- A law whose walk ends in 'true' and leaves all that was there as it was meets its row. -/
theorem law_post (hl : laidOutB P = true) {f : Func} {s : ChangeSpec} {apart : Bool} {W W' : World} {args : Array Value} {ds : List (DataW H)} {before : List MemPlace} {tb : TypeId}
    (hp : ∀ t ∈ f.params.toList, P.readableRec t = true ∧ t < P.types.size) (hr : f.resultTypes = #[tb]) (htb : P.underlying tb = some .bool) (hv : s.vars = [])
    (hs : s.fn H (ds ++ []) = { results := [.lit (.bool true)], args := ds }) (hW : DataW.Whole enc P f.params.toList s.vars apart W args.toList ds [] before) (hb : Below W.heap.size W W') :
    s.post enc P f apart true false false W args (.bool true) W' := by
  have hlt := hW.lt
  have hW2 := hW
  obtain ⟨p, q, hA, hV, rfl, _, _⟩ := hW
  have hq : q = [] := by
    rw [hv] at hV
    exact hV
  subst hq
  refine ⟨ds, [], p ++ [], [], p, [], hW2, ?_, ?_, ?_, hb.frame _, fun h => by cases h⟩
  · rw [hs, hr]
    exact trodAll_mk1 (shut_bool htb true)
  · rw [hs]
    exact trodAll_below hl hb _ _ _ _ hp hA (fun x hx => hlt x (by simp [hx]))
  · rw [hs, hv]
    rfl
end
end Go.Proofs.Ytpoaadjhaknhdaa
