/- Rows of bytes in memory, whatever the program. -/
import Derived.Test.YtpoaadjhaknhdaaPlain
import Derived.Deep.QuietTactic
import Derived.BigQuiet
import Derived.StillTailTactics
import Derived.Deep.RegionHeld3
import Derived.Deep.DrawnRows
import Derived.Laws.CopyOwn
import Derived.Laws.IdiomCopy
namespace Go.Proofs.Ytpoaadjhaknhdaa
open Go Go.RowKit

/-- From place 0 of block b on lie the bytes l, and they may be written. -/
structure RowAt (w : World) (b : Nat) (l : List UInt8) : Prop where
  lt : b < w.heap.size
  cell : ∀ k (h : k < l.length), w.cell? ⟨b, k, none⟩ = some (.int .u8 (l[k].toNat : Int))
  free : ∀ k, k < l.length → w.frozen? ⟨b, k, none⟩ = false

theorem RowAt.of_block {w w' : World} {b : Nat} {l : List UInt8} (h : RowAt w b l) (hs : w.heap.size ≤ w'.heap.size) (hb : w'.heap[b]? = w.heap[b]?) : RowAt w' b l :=
  ⟨Nat.lt_of_lt_of_le h.lt hs, fun k hk => (World.cell?_of_block (w := w) (a := ⟨b, k, none⟩) hb).trans (h.cell k hk), fun k hk => (World.frozen?_of_block (w := w) (a := ⟨b, k, none⟩) hb).trans (h.free k hk)⟩
theorem RowAt.below {w w' : World} {B b : Nat} {l : List UInt8} (h : RowAt w b l) (hb : Below B w w') (hlt : b < B) : RowAt w' b l := h.of_block hb.size (hb.block b hlt)
theorem RowAt.alloc {w : World} {b : Nat} {l : List UInt8} (h : RowAt w b l) (o : Obj) : RowAt (w.alloc o) b l := h.of_block (by simp) (Below.heap_alloc w o b h.lt)
theorem RowAt.drew {w : World} {b : Nat} {l : List UInt8} (h : RowAt w b l) : RowAt w.drew b l := ⟨h.lt, h.cell, h.free⟩
theorem RowAt.drewN {w : World} {b : Nat} {l : List UInt8} (h : RowAt w b l) (n : Nat) : RowAt (w.drewN n) b l := ⟨h.lt, h.cell, h.free⟩
theorem RowAt.other {w : World} {b : Nat} {l : List UInt8} (h : RowAt w b l) (a : Addr) (v : Value) (hne : b ≠ a.block) : RowAt (w.setCell a v) b l :=
  h.of_block (by simp) (Below.heap_setCell w a v b hne)
theorem RowAt.store {w : World} {b : Nat} {l : List UInt8} (h : RowAt w b l) (k : Nat) (c : UInt8) (hk : k < l.length) : RowAt (w.setCell ⟨b, k, none⟩ (.int .u8 (c.toNat : Int))) b (l.set k c) := by
  refine ⟨by simpa using h.lt, ?_, ?_⟩
  · intro j hj
    rw [List.length_set] at hj
    by_cases hjk : k = j
    · subst hjk
      rw [World.cell?_setCell_same _ _ _ (h.cell k hk)]
      simp
    · rw [World.cell?_setCell_other _ _ _ _ (by intro e; injection e with _ e2; exact hjk e2), h.cell j hj]
      simp [List.getElem_set_ne hjk]
  · intro j hj
    rw [World.frozen?_setCell]
    exact h.free j (by simpa using hj)
theorem RowAt.eq {w : World} {b : Nat} {l l' : List UInt8} (h : RowAt w b l) (e : l = l') : RowAt w b l' := e ▸ h

theorem row_new (w : World) (l : List UInt8) (t : TypeId) : RowAt (w.alloc (.cells (row l) t)) w.heap.size l := by
  refine ⟨by simp, ?_, ?_⟩
  · intro k hk
    rw [World.cell?_alloc_new, row_get l k hk]
  · intro k _
    exact World.frozen?_alloc_new w _ t k

/-- What '[]byte(s)' made. -/
theorem row_bytes (w : World) (s : ByteArray) (c : Nat) (t : TypeId) :
    RowAt (w.alloc (.cells (bytesRow s c) t ((bytesRow s c).size, (bytesRow s c).size + 1))) w.heap.size s.data.toList := by
  refine ⟨by simp, ?_, ?_⟩
  · intro k hk
    rw [World.cell?_alloc_mark]
    have hk' : k < s.size := by simpa using hk
    simp [bytesRow, Array.getElem?_append, hk']
  · intro k hk
    have hk' : k < s.size := by simpa using hk
    have : (w.alloc (.cells (bytesRow s c) t ((bytesRow s c).size, (bytesRow s c).size + 1))).heap[w.heap.size]? = some (.cells (bytesRow s c) t ((bytesRow s c).size, (bytesRow s c).size + 1)) := by
      show (w.heap.push _)[w.heap.size]? = _
      simp
    have hsz : s.size ≤ (bytesRow s c).size := by simp [bytesRow]
    simp only [World.frozen?, this]
    simp; omega

theorem add_plain (b o j : Nat) : (⟨b, o, none⟩ : Addr).add j = ⟨b, o + j, none⟩ := by unfold Addr.add; split <;> simp_all

theorem run_str {P : Program} (T E S : TypeId) (hT : P.underlying T = some (.slice E)) (hE : P.underlying E = some (.int .u8)) (hS : P.underlying S = some .string)
    {w : World} {b : Nat} {l : List UInt8} (h : RowAt w b l) (o n cap : Nat) (hn : o + n ≤ l.length) :
    (convert T S (.slice (some ⟨b, o, none⟩) n cap)).run P w = .ok (str ((l.drop o).take n)) w := by
  have hl : ((l.drop o).take n).length = n := by simp; omega
  have := run_convert_bytes_back (P := P) w T S E ⟨b, o, none⟩ cap ((l.drop o).take n) hT hE hS (by
    intro j hj
    rw [add_plain, h.cell (o + j) (by omega)]
    simp)
  rw [hl] at this
  exact this

theorem grownBy_refl (w : World) (r : Option Nat) : w.grownBy w r := ⟨rfl, rfl, rfl, Nat.le_refl _, fun _ _ _ => rfl⟩
theorem grownBy_set {w w1 : World} {b : Nat} (h : w.grownBy w1 (some b)) (k : Nat) (v : Value) : w.grownBy (w1.setCell ⟨b, k, none⟩ v) (some b) :=
  ⟨h.os, h.tape, h.output, by simpa using h.size, fun i hi hne => (Below.heap_setCell w1 _ v i (by intro e; exact hne (by rw [e]))).trans (h.block i hi hne)⟩

/-- A slice of the call's own that holds bytes is a row. -/
theorem row_own {w : World} {base n : Nat} {e : TypeId} {v : Value} {l : List UInt8} (h : w.ownsRow base e 1 v n (l.map bv)) (hn : 0 < n) :
    ∃ g cap, v = .slice (some ⟨g, 0, none⟩) n cap ∧ base ≤ g ∧ RowAt w g l ∧ l.length = n := by
  obtain ⟨h1, h2⟩ := h
  have hl : l.length = n := by simpa using h1
  rcases h2 with ⟨_, h0⟩ | ⟨g, cap, cur, rfl, hb, hg, hcap, hm, hs, ht⟩
  · omega
  · refine ⟨g, cap, rfl, hb, ⟨(Array.getElem?_eq_some_iff.1 hg).1, ?_, ?_⟩, hl⟩
    · intro k hk
      rw [cell_of_row w g k cur e (0, 0) hg]
      have : (cur.toList.take (n * 1))[k]? = (l.map bv)[k]? := by rw [ht]
      rw [List.getElem?_take, if_pos (by omega)] at this
      rw [← Array.getElem?_toList, this]
      simp [hk, bv]
    · intro k _
      simp [World.frozen?, hg]
/-- '[]byte(s)' in a walk: a row of the string's bytes, in a new block. -/
theorem wpList_bytes {P : Program} {w : World} {ops : Array Oper} {rest : List Oper} {o : Oper} {a : Act} {Q : Exit → Act → World → Prop} (hgd : o.guard = none) (x : Operand) (S T E : TypeId)
    (ho : o.op = .convert S T x) (hs : P.underlying S = some .string) (hd : P.underlying T = some (.slice E)) (he : P.underlying E = some (.int .u8)) (s : ByteArray) (hx : a.eval x = .string s)
    (h : ∀ cap w', RowAt w' w.heap.size s.data.toList → w.heap.size < w'.heap.size → Below w.heap.size w w' → wpList P ops Q rest (a.put o.dst (.slice (some ⟨w.heap.size, 0, none⟩) s.size cap)) w') : wpList P ops Q (o :: rest) a w := by
  refine wpList_plain hgd fun K hK => ?_
  have hrun := run_bytes_of_string (P := P) w S T E s hs hd he
  unfold Oper.wp
  simp [execOp, ho, hx, hrun, Result.andThen]
  exact hK _ _ (h _ _ (row_bytes w.drew s _ E) (by simp) (((Below.refl _ _).drew).alloc (by simp) _))

theorem cell_block {w : World} {b : Nat} {c : Array Value} {t : TypeId} {fr : Nat × Nat} (h : w.heap[b]? = some (.cells c t fr)) (k : Nat) : w.cell? ⟨b, k, none⟩ = c[k]? := by
  simp [World.cell?, h]
theorem free_block {w : World} {b : Nat} {c : Array Value} {t : TypeId} (h : w.heap[b]? = some (.cells c t (0, 0))) (k : Nat) : w.frozen? ⟨b, k, none⟩ = false := by
  simp [World.frozen?, h]
/-- A block of a piece. -/
def Piece (w : World) (b : Nat) (v f s g ve : Int) (d : ByteArray) (t : TypeId) : Prop := w.heap[b]? = some (.cells #[.int .i64 v, .int .i64 f, .int .i64 s, .int .i64 g, .int .i64 ve, .string d] t (0, 0))
theorem Piece.cells {w : World} {b : Nat} {v f s g ve : Int} {d : ByteArray} {t : TypeId} (h : Piece w b v f s g ve d t) :
    w.cell? ⟨b, 0, none⟩ = some (.int .i64 v) ∧ w.cell? ⟨b, 1, none⟩ = some (.int .i64 f) ∧ w.cell? ⟨b, 2, none⟩ = some (.int .i64 s) ∧ w.cell? ⟨b, 3, none⟩ = some (.int .i64 g) ∧ w.cell? ⟨b, 4, none⟩ = some (.int .i64 ve) ∧ w.cell? ⟨b, 5, none⟩ = some (.string d) := by
  refine ⟨?_, ?_, ?_, ?_, ?_, ?_⟩ <;> (rw [cell_block h]; rfl)
theorem Piece.free {w : World} {b : Nat} {v f s g ve : Int} {d : ByteArray} {t : TypeId} (h : Piece w b v f s g ve d t) :
    w.frozen? ⟨b, 0, none⟩ = false ∧ w.frozen? ⟨b, 1, none⟩ = false ∧ w.frozen? ⟨b, 2, none⟩ = false ∧ w.frozen? ⟨b, 3, none⟩ = false ∧ w.frozen? ⟨b, 4, none⟩ = false ∧ w.frozen? ⟨b, 5, none⟩ = false := by
  refine ⟨?_, ?_, ?_, ?_, ?_, ?_⟩ <;> exact free_block h _
theorem Piece.lt {w : World} {b : Nat} {v f s g ve : Int} {d : ByteArray} {t : TypeId} (h : Piece w b v f s g ve d t) : b < w.heap.size := (Array.getElem?_eq_some_iff.1 h).1
theorem Piece.of_block {w w' : World} {b : Nat} {v f s g ve : Int} {d : ByteArray} {t : TypeId} (h : Piece w b v f s g ve d t) (hb : w'.heap[b]? = w.heap[b]?) : Piece w' b v f s g ve d t := hb.trans h
theorem Piece.below {w w' : World} {B b : Nat} {v f s g ve : Int} {d : ByteArray} {t : TypeId} (h : Piece w b v f s g ve d t) (hb : Below B w w') (hlt : b < B) : Piece w' b v f s g ve d t := h.of_block (hb.block b hlt)
theorem Piece.other {w : World} {b : Nat} {v f s g ve : Int} {d : ByteArray} {t : TypeId} (h : Piece w b v f s g ve d t) (a : Addr) (x : Value) (hne : b ≠ a.block) : Piece (w.setCell a x) b v f s g ve d t := h.of_block (Below.heap_setCell w a x b hne)
theorem Piece.alloc {w : World} {b : Nat} {v f s g ve : Int} {d : ByteArray} {t : TypeId} (h : Piece w b v f s g ve d t) (o : Obj) : Piece (w.alloc o) b v f s g ve d t := h.of_block (Below.heap_alloc w o b h.lt)
theorem piece_new (w : World) (v f s g ve : Int) (d : ByteArray) (t : TypeId) : Piece (w.alloc (.cells #[.int .i64 v, .int .i64 f, .int .i64 s, .int .i64 g, .int .i64 ve, .string d] t)) w.heap.size v f s g ve d t := heap_alloc_new w _
theorem grownBy_trans {a b c : World} {r : Option Nat} (h : a.grownBy b r) (k : b.grownBy c r) : a.grownBy c r :=
  ⟨k.os.trans h.os, k.tape.trans h.tape, k.output.trans h.output, Nat.le_trans h.size k.size, fun i hi hne => (k.block i (Nat.lt_of_lt_of_le hi h.size) hne).trans (h.block i hi hne)⟩
theorem Piece.grown {w w' : World} {b r : Nat} {v f s g ve : Int} {d : ByteArray} {t : TypeId} (h : Piece w b v f s g ve d t) (hg : w.grownBy w' (some r)) (hne : b ≠ r) : Piece w' b v f s g ve d t :=
  h.of_block (hg.block b h.lt (by intro e; exact hne (Option.some.inj e)))
theorem below_grown {B r : Nat} {w0 w w' : World} (h : Below B w0 w) (hg : w.grownBy w' (some r)) (hB : B ≤ w.heap.size) (hr : B ≤ r) : Below B w0 w' := h.grown hg hB (fun k hk => by rw [← Option.some.inj hk]; exact hr)
/-- Cells set one by one. -/
theorem row_setCells (b : Nat) : ∀ (cs : List UInt8) (o : Nat) (w : World) (l : List UInt8), RowAt w b l → o + cs.length ≤ l.length →
    RowAt (w.setCells b o (cs.map bv)) b (over l o cs) ∧ w.grownBy (w.setCells b o (cs.map bv)) (some b)
  | [], o, w, l, h, _ => ⟨h.eq (by simp [over]), grownBy_refl _ _⟩
  | c :: cs, o, w, l, h, hl => by
    have h1 := h.store o c (by simp at hl; omega)
    obtain ⟨h2, h3⟩ := row_setCells b cs (o + 1) _ _ h1 (by simp at hl ⊢; omega)
    refine ⟨h2.eq ?_, grownBy_trans (grownBy_set (grownBy_refl _ _) o _) h3⟩
    have ho : o < l.length := by simp at hl; omega
    unfold over
    have e : (l.set o c).take (o + 1) = l.take o ++ [c] := by
      rw [List.take_set, List.take_succ_eq_append_getElem ho, List.set_append, if_neg (by simp; omega)]
      have : (l.take o).length = o := by simp; omega
      rw [this, Nat.sub_self]; rfl
    rw [e, List.drop_set_of_lt (by omega)]
    simp only [List.append_assoc, List.cons_append, List.nil_append, List.length_cons]
    rw [show o + 1 + cs.length = o + (cs.length + 1) by omega]

/-- 'copy(b[o:], s)' of a string that fits. -/
theorem wpList_copy_str {P : Program} {w : World} {ops : Array Oper} {rest : List Oper} {o : Oper} {a : Act} {Q : Exit → Act → World → Prop} (hgd : o.guard = none) (d s : Operand) (dT sT : TypeId)
    (ho : o.op = .call { callee := .builtin .copy, args := #[d, s], argTypes := #[dT, sT] }) (elem : TypeId) (hu : P.underlying dT = some (.slice elem)) (hsz : (P.info? elem).map (·.size) = some 1)
    (b off dLen dCap : Nat) (src : ByteArray) (hd : a.eval d = .slice (some ⟨b, off, none⟩) dLen dCap) (hs : a.eval s = .string src) (hn : src.size ≤ dLen)
    (l : List UInt8) (hrow : RowAt w b l) (hfit : off + src.size ≤ l.length)
    (h : ∀ w', RowAt w' b (over l off src.data.toList) → w.grownBy w' (some b) → wpList P ops Q rest (a.put o.dst (goInt src.size)) w') : wpList P ops Q (o :: rest) a w := by
  refine wpList_plain hgd fun K hK => ?_
  have hlen : (src.data.toList.map bv).length = src.size := by simp
  have hst := run_storeCells_cells (P := P) b off (src.data.toList.map bv) 0 w (fun j hj => by rw [hrow.cell (off + 0 + j) (by omega)]; rfl) (fun j hj => hrow.free _ (by omega)) (by intro u hu; obtain ⟨c, _, rfl⟩ := List.mem_map.1 hu; rfl)
  have hex : (src.extract 0 src.size) = src := by simp
  have hmap : (src.data.map fun b => Value.int .u8 (b.toNat : Int)).toList = src.data.toList.map bv := by simp [bv]
  have hmin : Nat.min src.size dLen = src.size := Nat.min_eq_left hn
  have hrun : (Builtin.copy_ #[dT, sT] o.type #[.slice (some ⟨b, off, none⟩) dLen dCap, .string src]).run P w = .ok (goInt src.size) (w.setCells b off (src.data.toList.map bv)) := by
    cases hq : P.info? elem with
    | none => simp [hq] at hsz
    | some i =>
      simp only [Nat.add_zero] at hst
      simp only [Builtin.copy_]
      simp [run_underlying hu, Builtin.lenOf, Builtin.firstCells, sizeOf, typeInfo, hq, hmin]
      rw [show (List.map (fun b => Value.int IntKind.u8 ↑b.toNat) src.data.toList) = src.data.toList.map bv from rfl, List.take_of_length_le (by omega), hst]
      rfl
  unfold Oper.wp
  simp [execOp, ho, resolve, invoke, builtin, hd, hs, hrun, Result.andThen]
  obtain ⟨h1, h2⟩ := row_setCells b src.data.toList off w l hrow (by simpa using hfit)
  exact hK _ _ (h _ h1 h2)
end Go.Proofs.Ytpoaadjhaknhdaa
