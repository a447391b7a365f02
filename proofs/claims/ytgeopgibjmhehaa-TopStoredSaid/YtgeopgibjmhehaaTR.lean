/- TopStored: what comes in. -/
import Derived.Test.YtgeopgibjmhehaaTQ
namespace Go.Proofs.Ytgeopgibjmhehaa
open Go Go.RowKit Go.Sort Go.ChangeShapes Go.WideShapes Go.Deep

def intCell (i : Int) : List Value := [.int .i64 i]
theorem intCell_length (i : Int) : (intCell i).length = 1 := rfl
abbrev IntsAt (w : World) (v : Value) (l : List Int) : Prop := ArgSl w 1 v l.length (l.flatMap intCell)
theorem IntsAt.cell {w : World} {b off : Nat} {l : List Int} (h : ∀ j u, (l.flatMap intCell)[j]? = some u → w.cell? ⟨b, off + j, none⟩ = some u) (k : Nat) (hk : k < l.length) : w.cell? ⟨b, off + k, none⟩ = some (.int .i64 l[k]) := by
  have := flat_get intCell 1 intCell_length l k hk 0 (by omega)
  rw [Nat.mul_one, Nat.add_zero] at this
  exact h _ _ this
def byteCell (x : B8) : List Value := [b8 x]
theorem byteCell_length (x : B8) : (byteCell x).length = 1 := rfl
theorem byteCells : ∀ l : List B8, l.flatMap byteCell = bcells l
  | [] => rfl
  | x :: r => by rw [List.flatMap_cons, byteCells r]; rfl
section
variable {H : Type} {enc : TypeId × Value → H} {w : World} {base : Nat} {spare : Nat → Bool} {held : Bool}
theorem int_one (fuel : Nat) (cs : List Value) (x : DataW H × List MemPlace) (h : DataW.trod enc Try.prog w base spare held fuel 3 cs = some x) : ∃ a, cs = intCell a := by
  obtain ⟨k, u0, _, _⟩ := DataW.trod_int Try.underlying3 h
  exact ⟨k, u0⟩
set_option maxRecDepth 100000 in
theorem open_intsl {r : Reach} {b0 : Nat} {v : Value} {d : DataW H} {ps : List MemPlace} (hv : Value.okWide Try.prog w r b0 23 v) (h : DataW.Trod enc Try.prog w base spare held 23 v d ps) : ∃ l, IntsAt w v l :=
  open_rows intCell 1 intCell_length (by omega) Try.underlying23 (by kernel_rfl) int_one hv h
theorem byte_one (fuel : Nat) (cs : List Value) (x : DataW H × List MemPlace) (h : DataW.trod enc Try.prog w base spare held fuel 5 cs = some x) : ∃ a, cs = byteCell a := by
  obtain ⟨k, u0, _, hw⟩ := DataW.trod_int Try.underlying5 h
  refine ⟨BitVec.ofInt 8 k, ?_⟩
  subst u0
  simp only [Lit.wf] at hw
  unfold byteCell b8
  have : ((BitVec.ofInt 8 k).toNat : Int) = k := by
    rw [BitVec.toNat_ofInt]
    simp [IntKind.min, IntKind.max, IntKind.bits, IntKind.signed] at hw
    omega
  rw [this]
/-- The slice of bytes that came in. -/
structure BytesIn (w : World) (v : Value) (A : Option Addr) (n c : Nat) (l : List B8) : Prop where
  eq : v = .slice A n c
  sl : ByteSl w v l
  len : l.length = n
  le : n ≤ c
  top : c ≤ maxLen
  none_ : A = none → c = 0
set_option maxRecDepth 100000 in
theorem open_bytesl {r : Reach} {b0 : Nat} {v : Value} {d : DataW H} {ps : List MemPlace} (hv : Value.okWide Try.prog w r b0 22 v) (h : DataW.Trod enc Try.prog w base spare held 22 v d ps) : ∃ A n c l, BytesIn w v A n c l := by
  obtain ⟨l, hl⟩ := open_rows byteCell 1 byteCell_length (by omega) Try.underlying22 (by kernel_rfl) byte_one hv h
  rw [byteCells] at hl
  have hsl : ByteSl w v l := hl
  obtain ⟨A, len, cap, rfl⟩ := okWide_slice Try.underlying22 hv
  obtain ⟨A', c', e⟩ := hsl.form
  injection e with e1 e2 e3
  subst e1; subst e2; subst e3
  obtain ⟨fuel, hk⟩ := h
  rcases open_slice Try.underlying22 hk with ⟨h0, _⟩ | ⟨a, len', cap', m, n, D, Pl, hcs, _, hl2, hm, hmm, _, hi⟩
  · simp [Value.cells] at h0
    obtain ⟨rfl, e2, rfl⟩ := h0
    exact ⟨none, l.length, 0, l, rfl, hsl, rfl, by rw [e2]; simp, Nat.zero_le _, fun _ => rfl⟩
  · simp [Value.cells] at hcs
    obtain ⟨rfl, e2, rfl⟩ := hcs
    exact ⟨_, l.length, cap, l, rfl, hsl, rfl, by omega, hm, fun e => by cases e⟩
end
theorem BytesIn.take {w : World} {v : Value} {A : Option Addr} {n c : Nat} {l : List B8} (h : BytesIn w v A n c l) (t : Nat) (ht : t ≤ n) : BytesIn w (.slice A t c) A t c (l.take t) := by
  obtain ⟨rfl, hs, hl, hle, htop, hn⟩ := h
  have hlt : (l.take t).length = t := by rw [List.length_take]; omega
  refine ⟨rfl, ?_, hlt, by omega, htop, hn⟩
  obtain ⟨e1, e2, A', c', e, h3⟩ := hs
  injection e with a1 a2 a3
  subst a1; subst a3
  refine ⟨by rw [bcells_length, Nat.mul_one], by omega, A, c, by rw [hlt], fun h0 => ?_⟩
  obtain ⟨b, off, e, hlt2, hc⟩ := h3 (by omega)
  refine ⟨b, off, e, hlt2, fun j u hu => hc j u ?_⟩
  unfold bcells at hu ⊢
  rw [List.getElem?_map] at hu ⊢
  rw [List.getElem?_take] at hu
  split at hu
  · exact hu
  · cases hu
theorem BytesIn.below {w w' : World} {v : Value} {A : Option Addr} {n c : Nat} {l : List B8} (h : BytesIn w v A n c l) (hb : Below w.heap.size w w') : BytesIn w' v A n c l :=
  ⟨h.eq, h.sl.below hb, h.len, h.le, h.top, h.none_⟩
theorem runsum_any (w : World) : Calls Try.prog 4 #[] w fun e w' => e = .returned (.bool true) ∧ w = w' := by
  go_enter Try.func4, Try.ntmps4
  go_wp2_with fail
  refine (sum_prog ⟨#[]⟩ _ (by unfold maxLen; decide)).mono ?_
  rintro e w4 ⟨rfl, rfl⟩
  rw [show u32 (crc ({ data := #[] } : ByteArray).data.toList) = .int .u32 4294967295 from rfl]
  go_wp2
  go_ret
  exact ⟨rfl, rfl⟩
/-- The piece that lies on drive i. -/
def pcOf (i : Nat) (r : List B8) : Pc := ⟨0, i, 0, 1, 7, bstr r⟩
theorem bstr_size (r : List B8) : (bstr r).size = r.length := by show (bstr r).data.size = _; simp [bstr]
theorem pcOf_ok (i : Nat) (r : List B8) (hi : i < 8) (hr : r.length = 16) : (pcOf i r).ok = true := by
  unfold Pc.ok pcOf
  dsimp only
  rw [bstr_size, hr]
  unfold validB
  rw [decide_eq_true_eq]
  omega
theorem enc_pc (p : Pc) (w : World) (hv : p.ok = true) :
    Calls Try.prog 8 #[p.val] w fun e w' => e = .returned (.tuple #[.string (encP p), .int .i64 0]) ∧ Below w.heap.size w w' := enc_prog_yes p.vol p.frag p.stripe p.gen p.ver p.data w hv
end Go.Proofs.Ytgeopgibjmhehaa

/- TopStored: the fragments that were found. -/
namespace Go.Proofs.Ytgeopgibjmhehaa
open Go Go.RowKit Go.Sort Go.ChangeShapes Go.WideShapes Go.Deep

theorem within_nat (x : Int) (n : Nat) (w : World) (h1 : 1 ≤ n) (h2 : n ≤ 4611686018427387904) :
    Calls Try.prog 5 #[.int .i64 x, .int .i64 n] w fun e w' => ∃ d : Nat, d < n ∧ e = .returned (.int .i64 d) ∧ w = w' := by
  refine (within_any x n w (by omega) (by omega)).mono ?_
  rintro e w' ⟨rfl, rfl⟩
  have a := Int.emod_nonneg x (show (n : Int) ≠ 0 by omega)
  have b := Int.emod_lt_of_pos x (show (0 : Int) < n by omega)
  exact ⟨(x % (n : Int)).toNat, by omega, by rw [Int.toNat_of_nonneg a], rfl⟩
def frCells : List Nat → List Value → List Value
  | i :: r, u :: s => .int .i64 (i : Int) :: u :: frCells r s
  | _, _ => []
theorem frCells_length : ∀ (l : List Nat) (us : List Value), us.length = l.length → (frCells l us).length = l.length * 2
  | [], [], _ => rfl
  | i :: r, u :: s, h => by
    simp only [frCells, List.length_cons] at h ⊢
    rw [frCells_length r s (by omega)]
    omega
theorem frCells_get : ∀ (l : List Nat) (us : List Value) (_ : us.length = l.length) (j : Nat) (h : j < l.length), (frCells l us)[j * 2]? = some (.int .i64 (l[j] : Int)) ∧ ∃ u, us[j]? = some u ∧ (frCells l us)[j * 2 + 1]? = some u
  | i :: r, u :: s, h, 0, _ => ⟨rfl, u, rfl, rfl⟩
  | i :: r, u :: s, h, j + 1, hj => by
    simp only [List.length_cons] at h hj
    obtain ⟨h1, v, h2, h3⟩ := frCells_get r s (by omega) j (by omega)
    rw [show (j + 1) * 2 = j * 2 + 1 + 1 by omega]
    exact ⟨h1, v, h2, h3⟩
theorem frCells_snoc : ∀ (l : List Nat) (us : List Value) (_ : us.length = l.length) (i : Nat) (u : Value), frCells (l ++ [i]) (us ++ [u]) = frCells l us ++ [.int .i64 (i : Int), u]
  | [], [], _, i, u => rfl
  | a :: r, b :: s, h, i, u => by
    simp only [List.length_cons] at h
    simp only [List.cons_append, frCells]
    rw [frCells_snoc r s (by omega)]
/-- The fragments that were found. -/
structure Frs (w0 w : World) (oh : Own) (v : Value) (idx : List Nat) (us : List Value) (R : Nat → List B8) : Prop where
  own : OwnSl w oh 2 v idx.length (frCells idx us)
  len : us.length = idx.length
  at_ : ∀ j (h : j < idx.length), ∃ b c, us[j]? = some (.slice (some ⟨b, 0, none⟩) 16 c) ∧ ¬ oh b ∧ ByteAt w b 0 (R idx[j])
  above : Above w0.heap.size oh
  under : Under w oh
section
variable {w0 w w1 w2 : World} {oh : Own} {v v' : Value} {idx : List Nat} {us : List Value} {R : Nat → List B8}
theorem Frs.start (w0 w : World) (R : Nat → List B8) : Frs w0 w NoOwn (.slice none 0 0) [] [] R := ⟨OwnSl.nil _ _ _, rfl, fun _ h => by simp at h, fun _ e => e.elim, fun _ e => e.elim⟩
theorem Frs.below (h : Frs w0 w oh v idx us R) (hb : Below w.heap.size w w1) : Frs w0 w1 oh v idx us R :=
  ⟨h.own.below hb, h.len, fun j hj => by
    obtain ⟨b, c, e, hn, hx⟩ := h.at_ j hj
    exact ⟨b, c, e, hn, hx.below hb⟩, h.above, h.under.mv hb.size⟩
theorem Frs.add (h : Frs w0 w1 oh v idx us R) (p b c : Nat) (hn : ¬ oh b) (hx : ByteAt w1 b 0 (R p)) (hw : w0.heap.size ≤ w1.heap.size)
    (happ : OwnSl w2 (Grow oh w1 w2) 2 v' (idx.length + 1) (frCells idx us ++ [.int .i64 (p : Int), .slice (some ⟨b, 0, none⟩) 16 c])) (hf : Fr oh w1 w2) :
    Frs w0 w2 (Grow oh w1 w2) v' (idx ++ [p]) (us ++ [.slice (some ⟨b, 0, none⟩) 16 c]) R := by
  have hng : ∀ q, ¬ oh q → q < w1.heap.size → ¬ Grow oh w1 w2 q := fun q h1 h2 e => by
    rcases e with e | e
    · exact h1 e
    · omega
  refine ⟨by rw [frCells_snoc _ _ h.len, List.length_append]; exact happ, by rw [List.length_append, List.length_append, h.len]; rfl, fun j hj => ?_, hf.mv.above h.above hw, hf.under h.under⟩
  by_cases e : j < idx.length
  · obtain ⟨b', c', e1, hn1, hx1⟩ := h.at_ j e
    refine ⟨b', c', by rw [List.getElem?_append_left (by rw [h.len]; exact e)]; exact e1, hng _ hn1 hx1.lt, ?_⟩
    rw [List.getElem_append_left e]
    exact hx1.fr hf hn1
  · have hj2 : j = idx.length := by rw [List.length_append] at hj; simp at hj; omega
    subst hj2
    refine ⟨b, c, by rw [List.getElem?_append_right (by rw [h.len]; exact Nat.le_refl _), h.len, Nat.sub_self]; rfl, hng _ hn hx.lt, ?_⟩
    rw [List.getElem_append_right (Nat.le_refl _)]
    simp only [Nat.sub_self, List.getElem_cons_zero]
    exact hx.fr hf hn
theorem Frs.frags (h : Frs w0 w oh v idx us R) (hm : idx.length ≤ 1000) : FragsAt w v idx us := by
  refine ⟨h.len, by unfold maxLen; omega, ?_⟩
  obtain ⟨A, cap, rfl, _⟩ := h.own.form
  refine ⟨A, cap, rfl, fun h0 => ?_⟩
  obtain ⟨g, off, cap', e, _, hg, _, _, hc, _⟩ := h.own.some_ h0
  injection e with e1 _ _
  refine ⟨g, off, e1, hg, fun j hj => ?_⟩
  obtain ⟨h1, u, hu, h2⟩ := frCells_get idx us h.len j hj
  exact ⟨hc _ _ h1, u, hu, by have := hc _ _ h2; rwa [← Nat.add_assoc] at this⟩
theorem Frs.uses (h : Frs w0 w oh v idx us R) (hR : ∀ j (h : j < idx.length), (R idx[j]).length = 16) : ∀ j (h : j < idx.length), ∃ u, us[j]? = some u ∧ ByteSl w u (R idx[j]) := fun j hj => by
  obtain ⟨b, c, e, _, hx⟩ := h.at_ j hj
  refine ⟨_, e, ?_⟩
  have := hx.sl (by rw [hR j hj]; unfold maxLen; omega) c
  rwa [hR j hj] at this
end
theorem RowAt.bytes {w : World} {b : Nat} {l : List B8} (h : RowAt w b (bstr l).data.toList) : ByteAt w b 0 l := by
  refine ⟨h.lt, fun k hk => ?_⟩
  rw [Nat.zero_add, h.cell k (by simpa [bstr] using hk)]
  simp [bstr, b8]
end Go.Proofs.Ytgeopgibjmhehaa
