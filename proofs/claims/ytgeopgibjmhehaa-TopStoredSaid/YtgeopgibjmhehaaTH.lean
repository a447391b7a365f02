/- From a walk to a row: what every law of this seat shares. -/
import Derived.Test.YtgeopgibjmhehaaRows
import Derived.ProofKit
import Derived.Carry
import Derived.Lib.SmallJoins
import Derived.Test.YtgeopgibjmhehaaTG
import Derived.Deep.Slices
import Derived.Deep.Fields
import Derived.ChangeSame
namespace Go.Proofs.Ytgeopgibjmhehaa
open Go.ChangeShapes Go.WideShapes Go.ChangeAt Go.RowKit Go.Joins Go.Deep

theorem own_knob : ownKnob Try.prog.godebug = none := by kernel_rfl
theorem laid_out : laidOutB Try.prog = true := by kernel_rfl

section
variable {H : Type} {enc : TypeId × Value → H} {P : Program} {w : World} {base : Nat} {spare : Nat → Bool} {held : Bool}
/-- A piece that came in by value: its five numbers and its data. -/
theorem open_piece {r : Reach} {b0 : Nat} {t : TypeId} {f0 f1 f2 f3 f4 f5 : Field} {x : Value} {dx : DataW H} {ps : List MemPlace} (hs : P.underlying t = some (.struct #[f0, f1, f2, f3, f4, f5]))
    (hone : oneCellFields P #[f0, f1, f2, f3, f4, f5] = true) (hC : P.cellsOf t = 6)
    (h0 : P.underlying f0.type = some (.int .i64)) (h1 : P.underlying f1.type = some (.int .i64)) (h2 : P.underlying f2.type = some (.int .i64)) (h3 : P.underlying f3.type = some (.int .i64)) (h4 : P.underlying f4.type = some (.int .i64)) (h5 : P.underlying f5.type = some .string)
    (hv : Value.okWide P w r b0 t x) (h : DataW.Trod enc P w base spare held t x dx ps) :
    ∃ (v f s g ve : Int) (d : ByteArray), x = .agg #[.int .i64 v, .int .i64 f, .int .i64 s, .int .i64 g, .int .i64 ve, .string d] ∧ d.size ≤ maxLen := by
  obtain ⟨⟨cells⟩, rfl, hsize⟩ := okWide_struct hs hv
  obtain ⟨k, hk⟩ := h
  obtain ⟨xs, n, _, _, _, hxl, hfield⟩ := DataW.trod_struct hs hk
  match cells, hsize.trans hC with
  | [a0, a1, a2, a3, a4, a5], _ =>
    have one : ∀ j f, (#[f0, f1, f2, f3, f4, f5] : Array Field)[j]? = some f → _ := fun j f hj => hone_of hone j f hj
    have z0 := hfield 0 f0 rfl
    have z1 := hfield 1 f1 rfl
    have z2 := hfield 2 f2 rfl
    have z3 := hfield 3 f3 rfl
    have z4 := hfield 4 f4 rfl
    have z5 := hfield 5 f5 rfl
    simp only [(one 0 f0 rfl).1, (one 0 f0 rfl).2, (one 1 f1 rfl).1, (one 1 f1 rfl).2, (one 2 f2 rfl).1, (one 2 f2 rfl).2, (one 3 f3 rfl).1, (one 3 f3 rfl).2, (one 4 f4 rfl).1, (one 4 f4 rfl).2, (one 5 f5 rfl).1, (one 5 f5 rfl).2] at z0 z1 z2 z3 z4 z5
    have hx : ∀ j, j < 6 → ∃ y, xs[j]? = some y := fun j hj => ⟨_, List.getElem?_eq_getElem (by rw [hxl]; exact hj)⟩
    obtain ⟨y0, e0⟩ := hx 0 (by omega)
    obtain ⟨y1, e1⟩ := hx 1 (by omega)
    obtain ⟨y2, e2⟩ := hx 2 (by omega)
    obtain ⟨y3, e3⟩ := hx 3 (by omega)
    obtain ⟨y4, e4⟩ := hx 4 (by omega)
    obtain ⟨y5, e5⟩ := hx 5 (by omega)
    obtain ⟨v, u0, _, _⟩ := DataW.trod_int h0 (z0.trans e0)
    obtain ⟨f, u1, _, _⟩ := DataW.trod_int h1 (z1.trans e1)
    obtain ⟨s, u2, _, _⟩ := DataW.trod_int h2 (z2.trans e2)
    obtain ⟨g, u3, _, _⟩ := DataW.trod_int h3 (z3.trans e3)
    obtain ⟨ve, u4, _, _⟩ := DataW.trod_int h4 (z4.trans e4)
    obtain ⟨d, u5, _, hd⟩ := DataW.trod_string h5 (z5.trans e5)
    simp [Value.cells] at u0 u1 u2 u3 u4 u5
    subst u0 u1 u2 u3 u4 u5
    exact ⟨v, f, s, g, ve, d, rfl, hd⟩
end

section
variable {H : Type} {enc : TypeId × Value → H} {P : Program}
theorem trodAll_below (hl : laidOutB P = true) {W W' : World} (hb : Below W.heap.size W W') : ∀ (ts : List TypeId) (vs : List Value) (ds : List (DataW H)) (ps : List MemPlace),
    (∀ t ∈ ts, P.readableRec t = true ∧ t < P.types.size) → DataW.TrodAll enc P W 0 (fun _ => true) true ts vs ds ps → (∀ x ∈ ps, x.block < W.heap.size) →
    DataW.TrodAll enc P W' 0 (fun b => decide (b < W.heap.size)) true ts vs ds ps
  | [], vs, ds, ps, _, h, _ => by
    obtain ⟨rfl, rfl, rfl⟩ := trodAll_nil h
    rfl
  | t :: ts, vs, ds, ps, hp, h, hlt => by
    obtain ⟨v, vs', d, ds', p, q, rfl, rfl, rfl, h1, h2⟩ := trodAll_cons h
    obtain ⟨hr, hs⟩ := hp t (by simp)
    exact ⟨p, q, Below.trod hl hr hs h1 hb (fun x hx => hlt x (by simp [hx])), trodAll_below hl hb ts vs' ds' q (fun t ht => hp t (by simp [ht])) h2 (fun x hx => hlt x (by simp [hx])), rfl⟩

/-- A law whose walk ends in 'true' and leaves all that was there as it was meets its row. -/
theorem law_post (hl : laidOutB P = true) {f : Func} {s : ChangeSpec} {apart : Bool} {W W' : World} {args : Array Value} {ds : List (DataW H)} {before : List MemPlace} {tb : TypeId}
    (hp : ∀ t ∈ f.params.toList, P.readableRec t = true ∧ t < P.types.size) (hr : f.resultTypes = #[tb]) (htb : P.underlying tb = some .bool) (hv : s.vars = [])
    (hs : s.fn H (ds ++ []) = { results := [.lit (.bool true)], args := ds }) (hW : DataW.Whole enc P f.params.toList s.vars apart W args.toList ds [] before) (hb : Below W.heap.size W W') :
    s.post enc P f apart true false false W args (.bool true) W' := by
  have hlt := hW.lt
  have hW2 := hW
  obtain ⟨p, q, hA, hV, rfl, _, _⟩ := hW
  have hq : q = [] := by
    rw [hv] at hV
    exact hV
  subst hq
  refine ⟨ds, [], p ++ [], [], p, [], hW2, ?_, ?_, ?_, hb.frame _, fun h => by cases h⟩
  · rw [hs, hr]
    exact trodAll_mk1 (shut_bool htb true)
  · rw [hs]
    exact trodAll_below hl hb _ _ _ _ hp hA (fun x hx => hlt x (by simp [hx]))
  · rw [hs, hv]
    rfl
end
end Go.Proofs.Ytgeopgibjmhehaa

/- The bounds of an opened uint32 and uint8. -/
namespace Go.Proofs.Ytgeopgibjmhehaa

theorem wf_u32 {n : Int} (h : (Lit.int .u32 n).wf = true) : ∃ m : BitVec 32, n = (m.toNat : Int) := by
  simp only [Lit.wf, Bool.and_eq_true, decide_eq_true_eq] at h
  have h0 : (0 : Int) ≤ n := h.1
  have h1 : n ≤ 4294967295 := h.2
  exact ⟨BitVec.ofNat 32 n.toNat, by rw [BitVec.toNat_ofNat]; omega⟩
theorem wf_u8 {n : Int} (h : (Lit.int .u8 n).wf = true) : ∃ m : UInt8, n = (m.toNat : Int) := by
  simp only [Lit.wf, Bool.and_eq_true, decide_eq_true_eq] at h
  have h0 : (0 : Int) ≤ n := h.1
  have h1 : n ≤ 255 := h.2
  exact ⟨UInt8.ofNat n.toNat, by simp; omega⟩
end Go.Proofs.Ytgeopgibjmhehaa

/- Six parameters opened. -/
namespace Go.Proofs.Ytgeopgibjmhehaa
open Go.ChangeShapes Go.WideShapes Go.ChangeAt Go.RowKit
variable {H : Type} {enc : TypeId × Value → H} {P : Program} {w : World} {base : Nat} {spare : Nat → Bool} {held : Bool}
theorem trodAll_six {t t1 t2 t3 t4 t5 : TypeId} {args : Array Value} {ds : List (DataW H)} {ps : List MemPlace} (h : DataW.TrodAll enc P w base spare held [t, t1, t2, t3, t4, t5] args.toList ds ps) :
    ∃ v v1 v2 v3 v4 v5 d d1 d2 d3 d4 d5 p p1 p2 p3 p4 p5, args = #[v, v1, v2, v3, v4, v5] ∧ ds = [d, d1, d2, d3, d4, d5] ∧ ps = p ++ p1 ++ p2 ++ p3 ++ p4 ++ p5 ∧ DataW.Trod enc P w base spare held t v d p ∧ DataW.Trod enc P w base spare held t1 v1 d1 p1 ∧ DataW.Trod enc P w base spare held t2 v2 d2 p2 ∧ DataW.Trod enc P w base spare held t3 v3 d3 p3 ∧ DataW.Trod enc P w base spare held t4 v4 d4 p4 ∧ DataW.Trod enc P w base spare held t5 v5 d5 p5 := by
  obtain ⟨v, vs, d, ds', p, q, hargs, rfl, rfl, hd, r⟩ := trodAll_cons h
  obtain ⟨v1, vs1, d1, ds1, p1, q1, rfl, rfl, rfl, hd1, r1⟩ := trodAll_cons r
  obtain ⟨v2, vs2, d2, ds2, p2, q2, rfl, rfl, rfl, hd2, r2⟩ := trodAll_cons r1
  obtain ⟨v3, vs3, d3, ds3, p3, q3, rfl, rfl, rfl, hd3, r3⟩ := trodAll_cons r2
  obtain ⟨v4, vs4, d4, ds4, p4, q4, rfl, rfl, rfl, hd4, r4⟩ := trodAll_cons r3
  obtain ⟨v5, vs5, d5, ds5, p5, q5, rfl, rfl, rfl, hd5, r5⟩ := trodAll_cons r4
  obtain ⟨rfl, rfl, rfl⟩ := trodAll_nil r5
  exact ⟨v, v1, v2, v3, v4, v5, d, d1, d2, d3, d4, d5, p, p1, p2, p3, p4, p5, by cases args; simp_all, rfl, by simp, hd, hd1, hd2, hd3, hd4, hd5⟩
end Go.Proofs.Ytgeopgibjmhehaa

/- Five and seven parameters opened. -/
namespace Go.Proofs.Ytgeopgibjmhehaa
open Go.ChangeShapes Go.WideShapes Go.ChangeAt Go.RowKit
variable {H : Type} {enc : TypeId × Value → H} {P : Program} {w : World} {base : Nat} {spare : Nat → Bool} {held : Bool}
theorem trodAll_five {t t1 t2 t3 t4 : TypeId} {args : Array Value} {ds : List (DataW H)} {ps : List MemPlace} (h : DataW.TrodAll enc P w base spare held [t, t1, t2, t3, t4] args.toList ds ps) :
    ∃ v v1 v2 v3 v4 d d1 d2 d3 d4 p p1 p2 p3 p4, args = #[v, v1, v2, v3, v4] ∧ ds = [d, d1, d2, d3, d4] ∧ ps = p ++ p1 ++ p2 ++ p3 ++ p4 ∧ DataW.Trod enc P w base spare held t v d p ∧ DataW.Trod enc P w base spare held t1 v1 d1 p1 ∧ DataW.Trod enc P w base spare held t2 v2 d2 p2 ∧ DataW.Trod enc P w base spare held t3 v3 d3 p3 ∧ DataW.Trod enc P w base spare held t4 v4 d4 p4 := by
  obtain ⟨v, vs, d, ds', p, q, hargs, rfl, rfl, hd, r⟩ := trodAll_cons h
  obtain ⟨v1, vs1, d1, ds1, p1, q1, rfl, rfl, rfl, hd1, r1⟩ := trodAll_cons r
  obtain ⟨v2, vs2, d2, ds2, p2, q2, rfl, rfl, rfl, hd2, r2⟩ := trodAll_cons r1
  obtain ⟨v3, vs3, d3, ds3, p3, q3, rfl, rfl, rfl, hd3, r3⟩ := trodAll_cons r2
  obtain ⟨v4, vs4, d4, ds4, p4, q4, rfl, rfl, rfl, hd4, r4⟩ := trodAll_cons r3
  obtain ⟨rfl, rfl, rfl⟩ := trodAll_nil r4
  exact ⟨v, v1, v2, v3, v4, d, d1, d2, d3, d4, p, p1, p2, p3, p4, by cases args; simp_all, rfl, by simp, hd, hd1, hd2, hd3, hd4⟩
theorem trodAll_seven {t t1 t2 t3 t4 t5 t6 : TypeId} {args : Array Value} {ds : List (DataW H)} {ps : List MemPlace} (h : DataW.TrodAll enc P w base spare held [t, t1, t2, t3, t4, t5, t6] args.toList ds ps) :
    ∃ v v1 v2 v3 v4 v5 v6 d d1 d2 d3 d4 d5 d6 p p1 p2 p3 p4 p5 p6, args = #[v, v1, v2, v3, v4, v5, v6] ∧ ds = [d, d1, d2, d3, d4, d5, d6] ∧ ps = p ++ p1 ++ p2 ++ p3 ++ p4 ++ p5 ++ p6 ∧ DataW.Trod enc P w base spare held t v d p ∧ DataW.Trod enc P w base spare held t1 v1 d1 p1 ∧ DataW.Trod enc P w base spare held t2 v2 d2 p2 ∧ DataW.Trod enc P w base spare held t3 v3 d3 p3 ∧ DataW.Trod enc P w base spare held t4 v4 d4 p4 ∧ DataW.Trod enc P w base spare held t5 v5 d5 p5 ∧ DataW.Trod enc P w base spare held t6 v6 d6 p6 := by
  obtain ⟨v, vs, d, ds', p, q, hargs, rfl, rfl, hd, r⟩ := trodAll_cons h
  obtain ⟨v1, vs1, d1, ds1, p1, q1, rfl, rfl, rfl, hd1, r1⟩ := trodAll_cons r
  obtain ⟨v2, vs2, d2, ds2, p2, q2, rfl, rfl, rfl, hd2, r2⟩ := trodAll_cons r1
  obtain ⟨v3, vs3, d3, ds3, p3, q3, rfl, rfl, rfl, hd3, r3⟩ := trodAll_cons r2
  obtain ⟨v4, vs4, d4, ds4, p4, q4, rfl, rfl, rfl, hd4, r4⟩ := trodAll_cons r3
  obtain ⟨v5, vs5, d5, ds5, p5, q5, rfl, rfl, rfl, hd5, r5⟩ := trodAll_cons r4
  obtain ⟨v6, vs6, d6, ds6, p6, q6, rfl, rfl, rfl, hd6, r6⟩ := trodAll_cons r5
  obtain ⟨rfl, rfl, rfl⟩ := trodAll_nil r6
  exact ⟨v, v1, v2, v3, v4, v5, v6, d, d1, d2, d3, d4, d5, d6, p, p1, p2, p3, p4, p5, p6, by cases args; simp_all, rfl, by simp, hd, hd1, hd2, hd3, hd4, hd5, hd6⟩
end Go.Proofs.Ytgeopgibjmhehaa

/- Arguments that are slices of structs: opened to lists. -/
namespace Go.Proofs.Ytgeopgibjmhehaa
open Go Go.RowKit Go.Sort Go.ChangeShapes Go.WideShapes Go.Deep

/-- The slice v, which came in, holds the cells xs, n elements of some cells each. -/
def ArgSl (w : World) (size : Nat) (v : Value) (n : Nat) (xs : List Value) : Prop :=
  xs.length = n * size ∧ n ≤ maxLen ∧ ∃ A c, v = .slice A n c ∧ (0 < n → ∃ b off, A = some ⟨b, off, none⟩ ∧ b < w.heap.size ∧ ∀ j u, xs[j]? = some u → w.cell? ⟨b, off + j, none⟩ = some u)
theorem ArgSl.below {w w' : World} {size n : Nat} {v : Value} {xs : List Value} {B : Nat} (h : ArgSl w size v n xs) (hb : Below B w w') (hB : w.heap.size ≤ B) : ArgSl w' size v n xs := by
  obtain ⟨h1, h2, A, c, h3, h4⟩ := h
  refine ⟨h1, h2, A, c, h3, fun hn => ?_⟩
  obtain ⟨b, off, e, hl, hc⟩ := h4 hn
  exact ⟨b, off, e, Nat.lt_of_lt_of_le hl hb.size, fun j u hu => (hb.cell (p := ⟨b, off + j, none⟩) (Nat.lt_of_lt_of_le hl hB)).trans (hc j u hu)⟩
/-- The cells of the k-th of equal pieces. -/
theorem flat_get {α : Type} (f : α → List Value) (size : Nat) (hf : ∀ a, (f a).length = size) : ∀ (l : List α) (k : Nat) (h : k < l.length) (j : Nat), j < size → (l.flatMap f)[k * size + j]? = (f l[k])[j]?
  | a :: r, 0, _, j, hj => by
    rw [List.flatMap_cons, List.getElem?_append_left (by rw [hf]; omega)]
    simp
  | a :: r, k + 1, h, j, hj => by
    have h1 : (k + 1) * size = k * size + size := Nat.succ_mul k size
    rw [List.flatMap_cons, List.getElem?_append_right (by rw [hf]; omega), hf]
    have := flat_get f size hf r k (by simpa using h) j hj
    rw [show (k + 1) * size + j - size = k * size + j by omega, this]
    rfl
theorem flat_length {α : Type} (f : α → List Value) (size : Nat) (hf : ∀ a, (f a).length = size) : ∀ l : List α, (l.flatMap f).length = l.length * size
  | [] => by simp
  | a :: r => by rw [List.flatMap_cons, List.length_append, flat_length f size hf r, hf, List.length_cons, Nat.succ_mul]; omega
section
variable {H : Type} {enc : TypeId × Value → H} {P : Program} {w : World} {base : Nat} {spare : Nat → Bool} {held : Bool}
theorem open_rows {α : Type} (f : α → List Value) (size : Nat) (hf : ∀ a, (f a).length = size) (hs : 0 < size) {r : Reach} {b0 : Nat} {t e : TypeId} {v : Value} {d : DataW H} {ps : List MemPlace} (ht : P.underlying t = some (.slice e)) (hC : P.cellsOf e = size)
    (hone : ∀ (fuel : Nat) (cs : List Value) (x : DataW H × List MemPlace), DataW.trod enc P w base spare held fuel e cs = some x → ∃ a, cs = f a)
    (hv : Value.okWide P w r b0 t v) (h : DataW.Trod enc P w base spare held t v d ps) : ∃ l : List α, ArgSl w size v l.length (l.flatMap f) := by
  obtain ⟨A, len, cap, rfl⟩ := okWide_slice ht hv
  obtain ⟨fuel, hk⟩ := h
  rcases open_slice ht hk with ⟨h0, _⟩ | ⟨a, len', cap', m, n, D, Pl, hcs, _, hl, hm, hmm, _, hi⟩
  · simp [Value.cells] at h0
    obtain ⟨rfl, rfl, rfl⟩ := h0
    exact ⟨[], by simp, by simp, none, 0, rfl, fun h => by simp at h⟩
  · simp [Value.cells] at hcs
    obtain ⟨rfl, rfl, rfl⟩ := hcs
    have hlm : len ≤ m := by rw [hmm]; split <;> omega
    have hex : ∀ i, i < len → ∃ x : α, ∀ j, j < size → w.cell? ((a.add (i * size)).add j) = (f x)[j]? := fun i hilt => by
      obtain ⟨cs', hc, htr⟩ := hi i (by omega)
      obtain ⟨x, rfl⟩ := hone _ _ _ htr
      rw [hC] at hc
      obtain ⟨_, _, hat⟩ := World.cells?_some hc
      exact ⟨x, fun j hj => hat j hj⟩
    have hall : ∀ n, n ≤ len → ∃ l : List α, l.length = n ∧ ∀ i (h : i < l.length) j, j < size → w.cell? ((a.add (i * size)).add j) = (f l[i])[j]? := by
      intro n
      induction n with
      | zero => intro _; exact ⟨[], rfl, fun i h => by simp at h⟩
      | succ n ih =>
        intro hn
        obtain ⟨l, hl1, hl2⟩ := ih (by omega)
        obtain ⟨x, hx⟩ := hex n (by omega)
        refine ⟨l ++ [x], by simp [hl1], fun i h j hj => ?_⟩
        by_cases hi : i < l.length
        · rw [List.getElem_append_left hi]; exact hl2 i hi j hj
        · have : i = n := by simp at h; omega
          subst this
          rw [List.getElem_append_right (by omega)]
          simp only [hl1, Nat.sub_self, List.getElem_cons_zero]
          exact hx j hj
    obtain ⟨l, hl1, hl2⟩ := hall len (Nat.le_refl _)
    refine ⟨l, flat_length f size hf l, by omega, some a, cap, by rw [hl1], fun hn => ?_⟩
    have h00 := hl2 0 hn 0 hs
    have hsm : (f l[0])[0]? = some ((f l[0])[0]'(by rw [hf]; exact hs)) := List.getElem?_eq_getElem _
    rw [hsm] at h00
    have e0 : (a.add (0 * size)).add 0 = a := by simp [Addr.add]
    rw [e0] at h00
    have hspot : a.spot = none := by
      unfold World.cell? at h00
      split at h00
      · split at h00
        · cases h00
        · rename_i hh
          cases hsp : a.spot
          · rfl
          · rw [hsp] at hh; simp at hh
      · cases h00
    obtain ⟨ab, ao, asp⟩ := a
    dsimp only at hspot
    subst hspot
    refine ⟨ab, ao, rfl, World.block_lt_of_cell? w _ h00, fun j u hu => ?_⟩
    have hj : j < l.length * size := by
      have := (List.getElem?_eq_some_iff.1 hu).1
      rwa [flat_length f size hf] at this
    have hq : j / size < l.length := Nat.div_lt_of_lt_mul (by rwa [Nat.mul_comm] at hj)
    have hr : j % size < size := Nat.mod_lt _ hs
    have hdm : j / size * size + j % size = j := by rw [Nat.mul_comm]; exact Nat.div_add_mod j size
    have h1 := flat_get f size hf l (j / size) hq (j % size) hr
    rw [hdm, hu] at h1
    have h2 := hl2 (j / size) hq (j % size) hr
    rw [← h1, Addr.add_lit, Addr.add_lit, Nat.add_assoc, hdm] at h2
    exact h2
end

theorem oprCells_length (x : Opr) : (oprCells x).length = 9 := rfl
/-- Calls that came in. -/
abbrev OpsAt (w : World) (v : Value) (l : List Opr) : Prop := ArgSl w 9 v l.length (l.flatMap oprCells)
theorem OpsAt.cells {w : World} {b off : Nat} {l : List Opr} (h : ∀ j u, (l.flatMap oprCells)[j]? = some u → w.cell? ⟨b, off + j, none⟩ = some u) (k : Nat) (hk : k < l.length) :
    w.cell? ⟨b, off + k * 9, none⟩ = some (.int .i64 l[k].kind) ∧ w.cell? ⟨b, off + k * 9 + 1, none⟩ = some (.int .i64 l[k].term) ∧ w.cell? ⟨b, off + k * 9 + 2, none⟩ = some (.int .i64 l[k].slot) ∧ w.cell? ⟨b, off + k * 9 + 3, none⟩ = some (.string l[k].data) ∧
    w.cell? ⟨b, off + k * 9 + 4, none⟩ = some (.int .i64 l[k].fault.kind) ∧ w.cell? ⟨b, off + k * 9 + 5, none⟩ = some (.int .i64 l[k].fault.slot) ∧ w.cell? ⟨b, off + k * 9 + 6, none⟩ = some (.int .i64 l[k].fault.bit) ∧ w.cell? ⟨b, off + k * 9 + 7, none⟩ = some (.int .i64 l[k].fault.mask) ∧ w.cell? ⟨b, off + k * 9 + 8, none⟩ = some (.int .i64 l[k].fault.dest) := by
  have g : ∀ j v, j < 9 → (oprCells l[k])[j]? = some v → w.cell? ⟨b, off + k * 9 + j, none⟩ = some v := fun j v hj hv => by
    rw [Nat.add_assoc]
    exact h _ _ ((flat_get oprCells 9 oprCells_length l k hk j hj).trans hv)
  exact ⟨g 0 _ (by omega) rfl, g 1 _ (by omega) rfl, g 2 _ (by omega) rfl, g 3 _ (by omega) rfl, g 4 _ (by omega) rfl, g 5 _ (by omega) rfl, g 6 _ (by omega) rfl, g 7 _ (by omega) rfl, g 8 _ (by omega) rfl⟩
section
variable {H : Type} {enc : TypeId × Value → H} {w : World} {base : Nat} {spare : Nat → Bool} {held : Bool}
end
/-- Some answer; where it is true the calls are few. -/
def LightPost (n : Nat) (w : World) (e : Ending) (w' : World) : Prop := ∃ r, e = .returned (.bool r) ∧ (r = true → n ≤ 60) ∧ w = w'
end Go.Proofs.Ytgeopgibjmhehaa
