/- Platters of the drive; SameTexts. -/
import Derived.Test.YtgeopgibjmhehaaEInj2
namespace Go.Proofs.Ytgeopgibjmhehaa
open Go Go.RowKit Go.Sort

def strs (l : List ByteArray) : List Value := l.map Value.string
/-- What a sector shows. -/
def Sec.shown (s : Sec) : ByteArray := if s.un = true then ⟨#[]⟩ else s.data
/-- After k rounds. -/
def platAt (l : List Sec) (k : Nat) : List Value := strs ((l.take k).map Sec.shown) ++ List.replicate (l.length - k) (.string ⟨#[]⟩)
theorem platAt_length (l : List Sec) (k : Nat) (h : k ≤ l.length) : (platAt l k).length = l.length := by simp [platAt, strs]; omega
theorem platAt_done (l : List Sec) : platAt l l.length = strs (l.map Sec.shown) := by simp [platAt]
theorem platAt_set (l : List Sec) (k : Nat) (h : k < l.length) : (platAt l k).set k (.string l[k].shown) = platAt l (k + 1) := by
  unfold platAt
  have hl : (strs ((l.take k).map Sec.shown)).length = k := by simp [strs]; omega
  rw [List.set_append, if_neg (by omega), hl, Nat.sub_self, List.take_succ_eq_append_getElem h]
  obtain ⟨m, hm⟩ : ∃ m, l.length - k = m + 1 := ⟨l.length - k - 1, by omega⟩
  rw [hm, show l.length - (k + 1) = m by omega, List.replicate_succ, List.set_cons_zero]
  unfold strs
  rw [List.map_append, List.map_append, List.append_assoc]
  rfl
theorem platAt_skip (l : List Sec) (k : Nat) (h : k < l.length) (hu : l[k].un = true) : platAt l k = platAt l (k + 1) := by
  have hl := platAt_length l k (by omega)
  rw [← platAt_set l k h, show l[k].shown = ⟨#[]⟩ by unfold Sec.shown; rw [if_pos hu]]
  have : (platAt l k)[k]'(by omega) = .string ⟨#[]⟩ := by
    unfold platAt
    rw [List.getElem_append_right (by simp [strs]; omega)]
    simp
  rw [← this, List.set_getElem_self]
theorem Try.info_str : (Try.prog.info? 9).map (fun i => (i.zero, i.size, i.bytes)) = some (some (.string ⟨#[]⟩), 1, 16) := by kernel_rfl
theorem madeCells_str (n : Nat) : madeCells #[Value.string ⟨#[]⟩] (n * 1) = (List.replicate n (Value.string ⟨#[]⟩)).toArray := by
  apply Array.ext'
  rw [Nat.mul_one, toList_madeCells_one]
/-- A slice of strings in memory. -/
def Texts (w : World) (o : Own) (v : Value) (l : List ByteArray) : Prop := OwnSl w o 1 v l.length (strs l)
theorem ValsAt.own {w : World} {g : Nat} {l : List Value} (h : ValsAt w g l) {o : Own} (ho : o g) (hm : l.length ≤ maxLen) : OwnSl w o 1 (.slice (some ⟨g, 0, none⟩) l.length l.length) l.length l := by
  refine ⟨by simp, .inr ⟨g, 0, l.length, rfl, ho, h.lt, Nat.le_refl _, hm, fun j u hu => ?_, fun j hj => ?_⟩⟩
  · obtain ⟨hj, rfl⟩ := List.getElem?_eq_some_iff.1 hu
    rw [Nat.zero_add]; exact h.cell j hj
  · rw [Nat.mul_one] at hj
    rw [Nat.zero_add, h.cell j hj]
    exact ⟨rfl, h.free j hj⟩
section
variable {w : World} {o p : Own} {a b c : Nat} {pv : Value} {S : Dv}
end
section
variable {w : World} {o : Own} {a : Nat} {S : Dv}
theorem read_e (h : Drv w o a S) (hS : S.Ok) (s : Int) : Calls Try.prog 30 #[.pointer (some ⟨a, 0, none⟩), .int .i64 s] w fun e w' => e = .returned (.tuple #[.string (S.read s).1, .int .i64 (S.read s).2]) ∧ ∃ n, w' = w.drewN n := by
  obtain ⟨p, b, c, pv, h⟩ := h
  exact read_any h hS s
theorem claim_e (h : Drv w o a S) : Calls Try.prog 29 #[.pointer (some ⟨a, 0, none⟩)] w fun e w' => e = .returned (.int .i64 S.claim) ∧ w = w' := by
  obtain ⟨p, b, c, pv, h⟩ := h
  exact claim_any h
theorem status_e (h : Drv w o a S) (hS : S.Ok) : Calls Try.prog 28 #[.pointer (some ⟨a, 0, none⟩)] w fun e w' => e = .returned (.agg #[.bool S.online, .bool S.dead, .int .i64 S.term]) ∧ Below w.heap.size w w' := by
  obtain ⟨p, b, c, pv, h⟩ := h
  exact status_any h hS
end
end Go.Proofs.Ytgeopgibjmhehaa

/- SameTexts. -/
namespace Go.Proofs.Ytgeopgibjmhehaa
open Go Go.RowKit Go.Sort

theorem Texts.form {w : World} {o : Own} {v : Value} {l : List ByteArray} (h : Texts w o v l) : ∃ A c, v = .slice A l.length c ∧ l.length ≤ maxLen ∧
    (0 < l.length → ∃ g off, A = some ⟨g, off, none⟩ ∧ ∀ k (hk : k < l.length), w.cell? ⟨g, off + k, none⟩ = some (.string l[k])) := by
  rcases h.2 with ⟨rfl, h0⟩ | ⟨g, off, cap, rfl, _, _, hn, hm, hc, _⟩
  · exact ⟨none, 0, by rw [h0], by omega, fun h => by omega⟩
  · refine ⟨_, cap, rfl, by omega, fun _ => ⟨g, off, rfl, fun k hk => hc k _ (by simp [strs, hk])⟩⟩
theorem Texts.drewN {w : World} {o : Own} {v : Value} {l : List ByteArray} (h : Texts w o v l) (n : Nat) : Texts (w.drewN n) o v l := OwnSl.below h (below_drew w n)

theorem str_eq (a : ByteArray) : (a.toList == a.toList) = true := by simp
theorem str_ne {a b : ByteArray} (h : a ≠ b) : (a.toList == b.toList) = false := by
  rw [beq_eq_false_iff_ne, ByteArray.toList_eq, ByteArray.toList_eq]
  intro e
  apply h
  cases a; cases b
  simp only [Array.toList_inj] at e
  rw [e]
end Go.Proofs.Ytgeopgibjmhehaa

/- Text: a sector of a string; the sanity check. -/
namespace Go.Proofs.Ytgeopgibjmhehaa
open Go Go.RowKit Go.Sort

theorem Try.make36t : ∀ w, (Instr.makeSlice 22 (.int .i64 36) (.int .i64 36)).run Try.prog w = .ok (.slice (some ⟨w.heap.size, 0, none⟩) 36 36) (w.alloc (.cells (row (zeros 36)) 5)) := fun _ => by kernel_rfl

theorem below_of_fr {w0 w1 w2 : World} {B : Nat} {o : Own} (h : Below B w0 w1) (k : Fr o w1 w2) (ho : Above B o) (hB : B ≤ w1.heap.size) : Below B w0 w2 := h.trans (k.below ho hB)
theorem above_new {w w' : World} {B : Nat} (hB : B ≤ w.heap.size) : Above B (Grow NoOwn w w') := fun k e => by
  rcases e with e | e
  · exact e.elim
  · omega

end Go.Proofs.Ytgeopgibjmhehaa

/- The drive of the reference: how it lies in memory, its small methods. -/
namespace Go.Proofs.Ytgeopgibjmhehaa
open Go Go.RowKit Go.Sort

/-- The raw state R of the reference stands for the drive S: cell 2 says 'online'; the sectors of a dead drive may be any. -/
structure Rel (R S : Dv) : Prop where
  claim : R.claim = S.claim
  on : R.off = S.online
  dead : R.dead = S.dead
  term : R.term = S.term
  pend : R.pend = S.pend
  len : R.secs.length = S.secs.length
  secs : S.dead = false → R.secs = S.secs
def Ref (w : World) (o : Own) (a : Nat) (S : Dv) : Prop := ∃ R, Drv w o a R ∧ Rel R S
theorem Ref.fr {w w' : World} {o o2 : Own} {a : Nat} {S : Dv} (h : Ref w o a S) (hf : Fr o2 w w') (hd : Apart o o2) : Ref w' o a S := by
  obtain ⟨R, h, r⟩ := h
  exact ⟨R, h.fr hf hd, r⟩
theorem Ref.below {w w' : World} {o : Own} {a : Nat} {S : Dv} (h : Ref w o a S) (hb : Below w.heap.size w w') : Ref w' o a S := by
  obtain ⟨R, h, r⟩ := h
  exact ⟨R, h.below hb, r⟩
theorem Ref.under {w : World} {o : Own} {a : Nat} {S : Dv} (h : Ref w o a S) : Under w o := by
  obtain ⟨R, h, _⟩ := h
  exact h.under
theorem online_live {S : Dv} (h : S.online = true) : S.dead = false := by
  unfold Dv.online at h
  cases hd : S.dead
  · rfl
  · rw [hd] at h; cases h
theorem Rel.at_ {R S : Dv} (h : Rel R S) (s : Int) : R.at_ s = S.at_ s := by unfold Dv.at_; rw [h.len]
theorem Rel.slot {R S : Dv} (h : Rel R S) (s : Int) : R.slot s = S.slot s := by unfold Dv.slot; rw [h.claim]
theorem Rel.get {R S : Dv} (h : Rel R S) (hd : S.dead = false) (s : Int) : R.get s = S.get s := by unfold Dv.get; rw [h.at_, h.secs hd]
theorem Rel.one {R S : Dv} (h : Rel R S) (hS : S.Ok) : 1 ≤ R.secs.length ∧ R.secs.length ≤ 128 := by
  have := hS.one
  have := hS.le
  have := hS.top
  rw [h.len]; omega
theorem Rel.lt {R S : Dv} (h : Rel R S) (hS : S.Ok) (s : Int) : S.at_ s < R.secs.length := by rw [h.len]; exact S.at_lt hS s

section
variable {w : World} {o p : Own} {a b c : Nat} {pv : Value} {R S : Dv}
end
end Go.Proofs.Ytgeopgibjmhehaa

/- Read, Valid, Platters of the reference's drive. -/
namespace Go.Proofs.Ytgeopgibjmhehaa
open Go Go.RowKit Go.Sort

theorem quiet_plus {P : Program} {f : FuncId} {args : Array Value} {w : World} {a n : Nat} {v : Value}
    (h : Calls P f args (w.drewN (a + n)) fun e w' => e = .returned v ∧ w.drewN (a + n) = w') : Calls P f args (w.drewN (a + n)) fun e w'' => e = .returned v ∧ ∃ m, w'' = w.drewN (a + m) :=
  h.mono fun _ _ ⟨he, hm⟩ => ⟨he, n, hm.symm⟩
section
variable {w : World} {o p : Own} {a b c : Nat} {pv : Value} {R S : Dv}
end
end Go.Proofs.Ytgeopgibjmhehaa

/- Valid, Platters, New of the reference's drive. -/
namespace Go.Proofs.Ytgeopgibjmhehaa
open Go Go.RowKit Go.Sort

theorem str_one (d : ByteArray) : ∀ u ∈ [Value.string d], u.oneCell' = true := by intro u hu; simp at hu; subst hu; rfl
section
variable {w : World} {o p : Own} {a b c : Nat} {pv : Value} {R S : Dv}
end
end Go.Proofs.Ytgeopgibjmhehaa

/- append once more: a slice that begins at its block's head stays so; rows of sectors out of it. -/
namespace Go.Proofs.Ytgeopgibjmhehaa
open Go Go.RowKit Go.Sort

/-- The slice, if not nil, begins at its block's head. -/
def Off0 (v : Value) : Prop := ∀ (ad : Addr) n c, v = .slice (some ad) n c → ad.off = 0
theorem off0_nil : Off0 (.slice none 0 0) := fun _ _ _ e => by cases e
theorem off0_row {w : World} {base : Nat} {e : TypeId} {size : Nat} {v : Value} {n : Nat} {xs : List Value} (h : w.ownsRow base e size v n xs) : Off0 v := by
  intro ad n' c' hv
  rcases h.2 with ⟨h2, _⟩ | ⟨g, cap, cur, h2, _⟩
  · rw [h2] at hv; cases hv
  · rw [h2] at hv
    injection hv with e1 _ _
    injection e1 with e1
    rw [← e1]
/-- append. -/
theorem run_append_sl0 {P : Program} (w : World) (t ty e : TypeId) (i : TypeInfo) (z : Value) (size bytes : Nat) (ht : P.underlying t = some (.slice e)) (hi : P.info? e = some i) (hz : i.zero = some z)
    (hsize : i.size = size) (hby : i.bytes = bytes) (hzs : z.cells.size = size) (hsz : 0 < size) {o : Own} {v x : Value} {n m : Nat} {xs news : List Value}
    (hown : OwnSl w o size v n xs) (hsrc : Src w size x m news) (h1 : ∀ u ∈ news, u.oneCell' = true) (h63 : n + m ≤ maxLen) (hbytes : (n + m) * bytes ≤ 140737488355328) :
    ∃ v' w', (Builtin.append_ #[t, t] ty #[v, x]).run P w = .ok v' w' ∧ OwnSl w' (Grow o w w') size v' (n + m) (xs ++ news) ∧ Fr o w w' ∧ (Off0 v → Off0 v') := by
  obtain ⟨hl, hsrc⟩ := hsrc
  rcases hsrc with ⟨rfl, rfl⟩ | ⟨ad, c, rfl, hnews⟩
  · obtain rfl : news = [] := List.eq_nil_of_length_eq_zero (by simpa using hl)
    refine ⟨v, w, ?_, by simpa using hown.mono fun _ e => .inl e, Fr.refl _ _, fun h => h⟩
    obtain ⟨A, cap, rfl, hc⟩ := hown.form
    cases A with
    | none =>
      rcases hown.2 with ⟨h, _⟩ | ⟨g, off, cap', h, _⟩
      · injection h with _ h2 h3; subst h2; subst h3
        simp [Builtin.append_, run_underlying ht, sizeOf, typeInfo, hi, Builtin.lenOf, Builtin.firstCells]
      · cases h
    | some A => simp [Builtin.append_, run_underlying ht, sizeOf, typeInfo, hi, Builtin.lenOf, Builtin.firstCells, hc, storeCells]
  · have grown : ∀ {v' w'}, w'.ownsRow w.heap.size e size v' (n + m) (xs ++ news) → w.grownBy w' none → OwnSl w' (Grow o w w') size v' (n + m) (xs ++ news) ∧ Fr o w w' ∧ (Off0 v → Off0 v') := fun {v' w'} r1 r2 => by
      refine ⟨?_, .of_grown r2 (fun _ h => by cases h), fun _ => off0_row r1⟩
      have h2 := OwnSl.of_row (o := fun k => w.heap.size ≤ k) r1 (fun k hk => hk)
      obtain ⟨e1, e2⟩ := h2
      refine ⟨e1, ?_⟩
      rcases e2 with e2 | ⟨g, off, cap, a, b, c, d⟩
      · exact .inl e2
      · exact .inr ⟨g, off, cap, a, .inr ⟨b, c⟩, c, d⟩
    rcases hown.2 with ⟨rfl, rfl⟩ | ⟨g, off, cap, rfl, hog, hg, hnc, hcm, hcell, hfree⟩
    · have hx : xs = [] := List.eq_nil_of_length_eq_zero (by simpa using hown.1)
      subst hx
      obtain ⟨v', w', hrun, r1, r2, _⟩ := run_append_own (P := P) w w.heap.size t ty e i z size bytes ht hi hz hsize hby hzs hsz (.slice none 0 0) 0 [] (World.ownsRow_nil w _ e size) ad m c news hl hnews h1 h63 hbytes (Nat.le_refl _)
      exact ⟨v', w', hrun, grown r1 r2⟩
    · by_cases hroom : n + m ≤ cap
      · subst hsize
        have hm : news.length ≤ (cap - n) * i.size := by rw [hl]; exact Nat.mul_le_mul_right _ (by omega)
        have hmul : n * i.size + (cap - n) * i.size = cap * i.size := by rw [← Nat.add_mul]; congr 1; omega
        have hsp : ∀ j, j < news.length → (w.cell? ⟨g, off + n * i.size + j, none⟩).isSome = true ∧ w.frozen? ⟨g, off + n * i.size + j, none⟩ = false := fun j hj => by
          rw [Nat.add_assoc]
          exact hfree (n * i.size + j) (by omega)
        refine ⟨_, _, run_append_room_cells (P := P) w t ty e i ht hi g off n cap ad m c news hl hnews h1 hroom (fun j hj => (hsp j hj).1) (fun j hj => (hsp j hj).2), ⟨by rw [List.length_append, hown.1, hl, Nat.add_mul], .inr ⟨g, off, cap, rfl, .inl hog, by rw [size_setCells]; exact hg, hroom, hcm, ?_, ?_⟩⟩, ?_⟩
        · intro j u hu
          by_cases hj : j < xs.length
          · rw [cell_setCells_out _ _ _ _ _ (.inr (.inl (show off + j < off + n * i.size by rw [hown.1] at hj; omega)))]
            exact hcell j u (by rwa [List.getElem?_append_left hj] at hu)
          · rw [List.getElem?_append_right (by omega)] at hu
            have := cells_setCells_new g news (off + n * i.size) w (fun j hj => (hsp j hj).1) (j - xs.length) u hu
            rwa [show off + n * i.size + (j - xs.length) = off + j by have := hown.1; omega] at this
        · intro j hj
          rw [frozen_setCells]
          exact ⟨isSome_setCells _ _ _ _ _ (hfree j hj).1, (hfree j hj).2⟩
        · exact ⟨Fr.setCells (.inl hog) _ _ _ (Fr.refl _ _), fun h => by
            intro ad n' c' e
            injection e with e1 _ _
            exact h _ n cap (by rw [e1])⟩
      · obtain ⟨v', w', hrun, r1, r2⟩ := run_append_arg_grows (P := P) w t ty e i z size bytes ht hi hz hsize hby hzs hsz ⟨g, off, none⟩ n cap xs hown.1 (fun j u hj => by rw [Addr.add_lit]; exact hcell j u hj) ad m c news hl hnews (by omega) h63 hbytes
        exact ⟨v', w', hrun, grown r1 r2⟩
theorem wp_append_sl0 {P : Program} {w : World} {op : Oper} {a : Act} {K : Act → World → Prop} {Q : Exit → Act → World → Prop} (s y : Operand) (t : TypeId)
    (ho : op.op = .call { callee := .builtin .append, args := #[s, y], argTypes := #[t, t] })
    (e : TypeId) (i : TypeInfo) (z : Value) (size bytes : Nat) (ht : P.underlying t = some (.slice e)) (hi : P.info? e = some i) (hz : i.zero = some z)
    (hsize : i.size = size) (hby : i.bytes = bytes) (hzs : z.cells.size = size) (hsz : 0 < size) (o : Own) (v x : Value) (n m : Nat) (xs news : List Value) (hs : a.eval s = v) (hx : a.eval y = x)
    (hown : OwnSl w o size v n xs) (hsrc : Src w size x m news) (h1 : ∀ u ∈ news, u.oneCell' = true) (h63 : n + m ≤ maxLen) (hbytes : (n + m) * bytes ≤ 140737488355328)
    (h : ∀ v' w', OwnSl w' (Grow o w w') size v' (n + m) (xs ++ news) → Fr o w w' → (Off0 v → Off0 v') → K (a.put op.dst v') w') : op.wp P a w K Q := by
  obtain ⟨v', w', hr, h2, h3, h4⟩ := run_append_sl0 (P := P) w t op.type e i z size bytes ht hi hz hsize hby hzs hsz hown hsrc h1 h63 hbytes
  unfold Oper.wp execOp
  simp only [ho, resolve, invoke, builtin, Sem.run_bind, Sem.run_pure, Result.andThen_ok, List.map_toArray, List.map_cons, List.map_nil, hs, hx, hr]
  exact h v' w' h2 h3 h4
theorem wpList_append_sl0 {P : Program} {w : World} {ops : Array Oper} {rest : List Oper} {op : Oper} {a : Act} {Q : Exit → Act → World → Prop} (hgd : op.guard = none) (s y : Operand) (t : TypeId)
    (ho : op.op = .call { callee := .builtin .append, args := #[s, y], argTypes := #[t, t] })
    (e : TypeId) (i : TypeInfo) (z : Value) (size bytes : Nat) (ht : P.underlying t = some (.slice e)) (hi : P.info? e = some i) (hz : i.zero = some z)
    (hsize : i.size = size) (hby : i.bytes = bytes) (hzs : z.cells.size = size) (hsz : 0 < size) (o : Own) (v x : Value) (n m : Nat) (xs news : List Value) (hs : a.eval s = v) (hx : a.eval y = x)
    (hown : OwnSl w o size v n xs) (hsrc : Src w size x m news) (h1 : ∀ u ∈ news, u.oneCell' = true) (h63 : n + m ≤ maxLen) (hbytes : (n + m) * bytes ≤ 140737488355328)
    (h : ∀ v' w', OwnSl w' (Grow o w w') size v' (n + m) (xs ++ news) → Fr o w w' → (Off0 v → Off0 v') → wpList P ops Q rest (a.put op.dst v') w') : wpList P ops Q (op :: rest) a w :=
  wpList_plain hgd fun _ hK => wp_append_sl0 s y t ho e i z size bytes ht hi hz hsize hby hzs hsz o v x n m xs news hs hx hown hsrc h1 h63 hbytes fun v' w' h2 h3 h4 => hK _ _ (h v' w' h2 h3 h4)
theorem step_append_sl0 {P : Program} {w : World} {ops : Array Oper} {op : Oper} {a : Act} {K : Act → World → Prop} {Q : Exit → Act → World → Prop} {E : Prop} (hgd : op.guard = none) (s y : Operand) (t : TypeId)
    (ho : op.op = .call { callee := .builtin .append, args := #[s, y], argTypes := #[t, t] })
    (e : TypeId) (i : TypeInfo) (z : Value) (size bytes : Nat) (ht : P.underlying t = some (.slice e)) (hi : P.info? e = some i) (hz : i.zero = some z)
    (hsize : i.size = size) (hby : i.bytes = bytes) (hzs : z.cells.size = size) (hsz : 0 < size) (o : Own) (v x : Value) (n m : Nat) (xs news : List Value) (hs : a.eval s = v) (hx : a.eval y = x)
    (hown : OwnSl w o size v n xs) (hsrc : Src w size x m news) (h1 : ∀ u ∈ news, u.oneCell' = true) (h63 : n + m ≤ maxLen) (hbytes : (n + m) * bytes ≤ 140737488355328)
    (h : ∀ v' w', OwnSl w' (Grow o w w') size v' (n + m) (xs ++ news) → Fr o w w' → (Off0 v → Off0 v') → K (a.put op.dst v') w') : if Region.wanted op (yielded ops a.tmps) = true then Oper.wp P op a w K Q else E := by
  have hw : Region.wanted op (yielded ops a.tmps) = true := by simp [Region.wanted, hgd]
  rw [if_pos hw]
  exact wp_append_sl0 s y t ho e i z size bytes ht hi hz hsize hby hzs hsz o v x n m xs news hs hx hown hsrc h1 h63 hbytes h

/-- The cells of a row of sectors. -/
def secCells (l : List Sec) : List Value := l.flatMap Sec.cells
theorem secCells_length (l : List Sec) : (secCells l).length = l.length * 3 := by
  induction l with
  | nil => rfl
  | cons f l ih => unfold secCells at *; simp [Sec.cells, ih]; omega
theorem secCells_get : ∀ (l : List Sec) (i : Nat) (h : i < l.length) (j : Nat) (v : Value), l[i].cells[j]? = some v → (secCells l)[i * 3 + j]? = some v
  | s :: r, 0, _, j, v, hv => by
    have hj : j < 3 := by have := (List.getElem?_eq_some_iff.1 hv).1; simpa [Sec.cells] using this
    show (s.cells ++ secCells r)[0 * 3 + j]? = some v
    rw [List.getElem?_append_left (by simp [Sec.cells]; omega)]
    simpa using hv
  | s :: r, i + 1, h, j, v, hv => by
    show (s.cells ++ secCells r)[(i + 1) * 3 + j]? = some v
    rw [List.getElem?_append_right (by simp [Sec.cells]; omega)]
    have := secCells_get r i (Nat.lt_of_succ_lt_succ h) j v hv
    rw [← this]
    congr 1
    simp [Sec.cells]; omega
theorem secs_of_own {w : World} {p : Own} {b c : Nat} {l : List Sec} (h : OwnSl w p 3 (.slice (some ⟨b, 0, none⟩) l.length c) l.length (secCells l)) : SecsAt w b l := by
  rcases h.2 with ⟨h2, _⟩ | ⟨g, off, cap, e, hp, hg, hn, hc, hcell, hfree⟩
  · cases h2
  · injection e with e1 _ e3
    injection e1 with e1
    injection e1 with e1 e2
    subst e1; subst e2; subst e3
    refine ⟨hg, fun i hi j v hv => ?_, fun i hi j hj => ?_⟩
    · have := hcell (i * 3 + j) v (secCells_get l i hi j v hv)
      rwa [Nat.zero_add] at this
    · have := hfree (i * 3 + j) (by omega)
      rwa [Nat.zero_add] at this
theorem src_of_secs {w : World} {b c : Nat} {l : List Sec} (h : SecsAt w b l) : Src w 3 (.slice (some ⟨b, 0, none⟩) l.length c) l.length (secCells l) := by
  refine ⟨secCells_length l, .inr ⟨_, c, rfl, fun j u hu => ?_⟩⟩
  rw [Addr.add_lit, Nat.zero_add]
  have hj : j < l.length * 3 := by
    have := (List.getElem?_eq_some_iff.1 hu).1
    rwa [secCells_length] at this
  have hi : j / 3 < l.length := by omega
  have hr : j % 3 < 3 := Nat.mod_lt _ (by omega)
  have he : j / 3 * 3 + j % 3 = j := by omega
  obtain ⟨v, hv⟩ : ∃ v, l[j / 3].cells[j % 3]? = some v := ⟨_, List.getElem?_eq_getElem (show j % 3 < (Sec.cells l[j / 3]).length from hr)⟩
  have h1 := secCells_get l _ hi _ v hv
  rw [he, hu] at h1
  have h2 := h.range _ hi _ v hv
  rw [he] at h2
  rw [h2, ← h1]
end Go.Proofs.Ytgeopgibjmhehaa
