/- Rows of bytes and rows of rows in memory; coefficients, Combine. -/
import Derived.Test.YtgeopgibjmhehaaTC
import Derived.Test.YtgeopgibjmhehaaTN
namespace Go.Proofs.Ytgeopgibjmhehaa
open Go Go.RowKit Go.Sort
attribute [local go_sem ↓] Go.wp_at_zero Go.wp_at_succ

def bcells (l : List B8) : List Value := l.map b8
theorem bcells_length (l : List B8) : (bcells l).length = l.length := by simp [bcells]
theorem bcells_get (l : List B8) (k : Nat) (h : k < l.length) : (bcells l)[k]? = some (b8 l[k]) := by simp [bcells, h]
theorem bcells_set (l : List B8) (k : Nat) (x : B8) : (bcells l).set k (b8 x) = bcells (l.set k x) := by simp [bcells, List.map_set]
/-- The slice v holds the bytes l. -/
def ByteSl (w : World) (v : Value) (l : List B8) : Prop := ArgSl w 1 v l.length (bcells l)
/-- The slice v holds slices that hold the rows ls. -/
def RowsSl (w : World) (v : Value) (ls : List (List B8)) : Prop := ∃ vs : List Value, ArgSl w 1 v ls.length vs ∧ ∀ k (h : k < ls.length), ∃ u, vs[k]? = some u ∧ ByteSl w u ls[k]
abbrev ByteBox (w : World) (b : Nat) (l : List B8) : Prop := ValsAt w b (bcells l)
section
variable {w w' : World} {v : Value} {l : List B8} {ls : List (List B8)} {b : Nat}
theorem ByteSl.below (h : ByteSl w v l) (hb : Below w.heap.size w w') : ByteSl w' v l := ArgSl.below h hb (Nat.le_refl _)
theorem RowsSl.below (h : RowsSl w v ls) (hb : Below w.heap.size w w') : RowsSl w' v ls := by
  obtain ⟨vs, h1, h2⟩ := h
  refine ⟨vs, ArgSl.below h1 hb (Nat.le_refl _), fun k hk => ?_⟩
  obtain ⟨u, hu, h3⟩ := h2 k hk
  exact ⟨u, hu, h3.below hb⟩
theorem ByteSl.form (h : ByteSl w v l) : ∃ A c, v = .slice A l.length c := by
  obtain ⟨_, _, A, c, hv, _⟩ := h
  exact ⟨A, c, hv⟩
theorem ByteSl.some_ (h : ByteSl w v l) (hn : 0 < l.length) : ∃ b off c, v = .slice (some ⟨b, off, none⟩) l.length c ∧ b < w.heap.size ∧ ∀ k (h : k < l.length), w.cell? ⟨b, off + k, none⟩ = some (b8 l[k]) := by
  obtain ⟨_, _, A, c, hv, hc⟩ := h
  obtain ⟨b, off, rfl, hlt, hcell⟩ := hc hn
  exact ⟨b, off, c, hv, hlt, fun k hk => hcell k _ (bcells_get l k hk)⟩
theorem RowsSl.some_ (h : RowsSl w v ls) (hn : 0 < ls.length) : ∃ b off c, v = .slice (some ⟨b, off, none⟩) ls.length c ∧ b < w.heap.size ∧ ∀ k (h : k < ls.length), ∃ u, w.cell? ⟨b, off + k, none⟩ = some u ∧ ByteSl w u ls[k] := by
  obtain ⟨vs, ⟨_, _, A, c, hv, hc⟩, h2⟩ := h
  obtain ⟨b, off, rfl, hlt, hcell⟩ := hc hn
  refine ⟨b, off, c, hv, hlt, fun k hk => ?_⟩
  obtain ⟨u, hu, h3⟩ := h2 k hk
  exact ⟨u, hcell k u hu, h3⟩
theorem ByteBox.sl (h : ByteBox w b l) (hm : l.length ≤ maxLen) (c : Nat) : ByteSl w (.slice (some ⟨b, 0, none⟩) l.length c) l := by
  refine ⟨by simp [bcells_length], hm, some ⟨b, 0, none⟩, c, rfl, fun _ => ⟨b, 0, rfl, h.lt, fun j u hu => ?_⟩⟩
  have hj := (List.getElem?_eq_some_iff.1 hu).1
  rw [Nat.zero_add, h.cell j hj]
  rw [List.getElem?_eq_getElem hj] at hu
  exact hu
theorem ByteBox.get (h : ByteBox w b l) (k : Nat) (hk : k < l.length) : w.cell? ⟨b, k, none⟩ = some (b8 l[k]) := by
  have := h.cell k (by rw [bcells_length]; exact hk)
  rw [this]
  simp [bcells]
theorem ByteBox.put (h : ByteBox w b l) (k : Nat) (hk : k < l.length) (x : B8) : ByteBox (w.setCell ⟨b, k, none⟩ (b8 x)) b (l.set k x) := by
  have := ValsAt.store h k (b8 x) (by rw [bcells_length]; exact hk)
  rw [bcells_set] at this
  exact this
theorem ByteBox.room (h : ByteBox w b l) (k : Nat) (hk : k < l.length) : w.frozen? ⟨b, k, none⟩ = false := h.free k (by rw [bcells_length]; exact hk)
end
/-- 'make([]T, n)' of elements of one cell: in a new block. -/
theorem wpList_mk {P : Program} {w : World} {ops : Array Oper} {rest : List Oper} {o : Oper} {a : Act} {Q : Exit → Act → World → Prop} (hgd : o.guard = none) (x y : Operand) (ty e : TypeId) (z : Value) (bytes : Nat)
    (ho : o.op = .makeSlice ty x y) (ht : P.underlying ty = some (.slice e)) (hinfo : (P.info? e).map (fun i => (i.zero, i.size, i.bytes)) = some (some z, 1, bytes)) (hz : z.cells = #[z]) (n : Nat) (hn : n ≤ 100000) (hb : bytes ≤ 100) (hx : a.eval x = .int .i64 n) (hy : a.eval y = .int .i64 n)
    (h : ∀ w', ValsAt w' w.heap.size (List.replicate n z) → w.heap.size < w'.heap.size → Below w.heap.size w w' → wpList P ops Q rest (a.put o.dst (.slice (some ⟨w.heap.size, 0, none⟩) n n)) w') : wpList P ops Q (o :: rest) a w := by
  obtain ⟨i, hi, hzz⟩ := Option.map_eq_some_iff.1 hinfo
  simp only [Prod.mk.injEq] at hzz
  obtain ⟨hz0, hs, hby⟩ := hzz
  have hnb : bytes * n ≤ 100 * 100000 := Nat.mul_le_mul hb hn
  refine wpList_plain hgd fun K hK => ?_
  have hrun := run_make (P := P) w ty e i z ht hi hz0 .i64 .i64 n n (by omega) (Int.le_refl _) (by rw [hby, ← Int.natCast_mul]; omega) (by omega)
  rw [Int.toNat_natCast, hs, Nat.mul_one, hz] at hrun
  have hmc : madeCells #[z] n = (List.replicate n z).toArray := by
    apply Array.ext_getElem?
    intro i
    unfold madeCells
    by_cases h : i < n
    · simp [h, Nat.mod_one]
    · simp [h]
  rw [hmc] at hrun
  unfold Oper.wp
  simp [execOp, ho, hx, hy, hrun, Result.andThen]
  exact hK _ _ (h _ (by have := vals_new w (List.replicate n z) e; simpa using this) (by simp) ((Below.refl _ _).alloc (Nat.le_refl _) _))
theorem Try.info_b8 : (Try.prog.info? 5).map (fun i => (i.zero, i.size, i.bytes)) = some (some (.int .u8 0), 1, 1) := by kernel_rfl
theorem Try.info_row : (Try.prog.info? 22).map (fun i => (i.zero, i.size, i.bytes)) = some (some (.slice none 0 0), 1, 24) := by kernel_rfl
theorem zero_cells (n : Nat) : List.replicate n (Value.int .u8 0) = bcells (List.replicate n 0#8) := by simp [bcells]

/-- The parity row of index a, as far as place j. -/
def coefsTo (k a j : Nat) : List B8 := (List.range k).map fun i => if i < j then coef (a - k) i else 0#8
theorem coefsTo_length (k a j : Nat) : (coefsTo k a j).length = k := by simp [coefsTo]
theorem coefsTo_zero (k a : Nat) : coefsTo k a 0 = List.replicate k 0#8 := by
  refine list_ext k (coefsTo_length _ _ _) (by simp) fun p hp => ?_
  simp [coefsTo, List.getD_eq_getElem?_getD, hp]
theorem coefsTo_set (k a j : Nat) (hj : j < k) : (coefsTo k a j).set j (coef (a - k) j) = coefsTo k a (j + 1) := by
  refine list_ext k (by simp [coefsTo]) (coefsTo_length _ _ _) fun p hp => ?_
  simp only [List.getD_eq_getElem?_getD]
  by_cases e : j = p
  · subst e
    rw [List.getElem?_set_self (by rw [coefsTo_length]; exact hj)]
    simp [coefsTo, hj]
  · rw [List.getElem?_set_ne e]
    simp only [coefsTo, List.getElem?_map, List.getElem?_range hp]
    by_cases h : p < j
    · simp [h, show p < j + 1 by omega]
    · simp [h, show ¬ p < j + 1 by omega]
theorem coefsTo_all (k a : Nat) (h : ¬ a < k) : coefsTo k a k = coefs k a := by
  unfold coefsTo coefs
  refine List.map_congr_left fun i hi => ?_
  rw [if_pos (List.mem_range.1 hi), if_neg h]
theorem coefs_one (k a : Nat) (h : a < k) : (List.replicate k 0#8).set a 1#8 = coefs k a := by
  refine list_ext k (by simp) (coefs_length _ _) fun p hp => ?_
  simp only [List.getD_eq_getElem?_getD]
  by_cases e : a = p
  · subst e
    rw [List.getElem?_set_self (by simpa using h)]
    simp [coefs, h]
  · rw [List.getElem?_set_ne e]
    simp [coefs, h, hp, Ne.symm e]
set_option maxHeartbeats 1000000 in
theorem coefs_any (k a : Nat) (w : World) (hk1 : 1 ≤ k) (hk : k ≤ 6) (ha : a ≤ 10) :
    Calls Try.prog 34 #[.int .i64 k, .int .i64 a] w fun e w' => e = .returned (.slice (some ⟨w.heap.size, 0, none⟩) k k) ∧ ByteBox w' w.heap.size (coefs k a) ∧ Below w.heap.size w w' := by
  go_enter Try.func34, Try.ntmps34
  go_wp2_with (refine wpList_mk (by rfl) (.tmp 7) (.tmp 7) 22 5 (.int .u8 0) 1 (by rfl) Try.underlying22 Try.info_b8 rfl k (by omega) (by omega) (by rfl) (by rfl) ?_)
  intro w1 hv1 hlt1 hb1
  rw [zero_cells] at hv1
  have HV := hid hv1
  have HB := hid hb1
  clear hv1 hb1
  by_cases hlt : a < k
  · have hce := ByteBox.get HV.out a (by simpa using hlt)
    generalize (List.replicate k 0#8)[a]'(by simpa using hlt) = old at hce
    have hfr := ByteBox.room HV.out a (by simpa using hlt)
    have hpt := ByteBox.put HV.out a (by simpa using hlt) 1#8
    rw [coefs_one k a hlt] at hpt
    have HP := hid hpt
    clear hpt
    go_wp2
    go_ret
    exact ⟨rfl, HP.out, HB.out.setCell (p := ⟨w.heap.size, a, none⟩) (Nat.le_refl _) _⟩
  · go_wp2
    go_loopw [18] (fun i wr => ∃ j : Nat, j ≤ k ∧ i = .int .i64 j ∧ Hid (ByteBox wr w.heap.size (coefsTo k a j)) ∧ Hid (Below w.heap.size w wr)) (fun i _ => (k - intOf i).toNat)
    case atStart => exact ⟨0, Nat.zero_le _, rfl, hid (by rw [coefsTo_zero]; exact HV.out), HB⟩
    case round =>
      obtain ⟨j, hj, rfl, hbx, hbw⟩ := hrel
      by_cases hlj : j < k
      · obtain ⟨old, hce⟩ : ∃ old, wr.cell? ⟨w.heap.size, j, none⟩ = some old := ⟨_, ByteBox.get hbx.out j (by rw [coefsTo_length]; exact hlj)⟩
        have hfr := ByteBox.room hbx.out j (by rw [coefsTo_length]; exact hlj)
        have hpt := ByteBox.put hbx.out j (by rw [coefsTo_length]; exact hlj) (coef (a - k) j)
        rw [coefsTo_set k a j hlj] at hpt
        have HP := hid hpt
        clear hpt
        go_wp2_with fail
        rw [show ((a : Int) - (k : Int)) = ((a - k : Nat) : Int) by omega]
        refine (coef_any (a - k) j (by omega) (by omega) _).mono ?_
        rintro e w' ⟨rfl, rfl⟩
        go_wp2
        go_roundw
        case rel => exact ⟨j + 1, by omega, by go_num, HP, hid (hbw.out.setCell (p := ⟨w.heap.size, j, none⟩) (Nat.le_refl _) _)⟩
        case measure => (simp [intOf]; try omega)
      · obtain rfl : j = k := by omega
        go_wp2
        go_ret
        exact ⟨rfl, by rw [← coefsTo_all j a hlt]; exact hbx.out, hbw.out⟩
end Go.Proofs.Ytgeopgibjmhehaa
