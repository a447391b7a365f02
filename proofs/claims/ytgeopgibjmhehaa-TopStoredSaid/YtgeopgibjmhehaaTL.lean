/- Capacity of the program. -/
import Derived.Test.YtgeopgibjmhehaaTK
namespace Go.Proofs.Ytgeopgibjmhehaa
open Go Go.RowKit Go.Sort

/-- The slots below k are written, from above. -/
def capW (S : Dv) (t : Int) : Nat → Int × Dv
  | 0 => (0, S)
  | k + 1 => if (S.write t (k : Int) (markOf (k : Int))).1 = 0 then capW (S.write t (k : Int) (markOf (k : Int))).2 t k else S.write t (k : Int) (markOf (k : Int))
/-- The first slot from s, of m, that holds another text than its mark. -/
def capR (S : Dv) : Nat → Nat → Nat × Int
  | s, 0 => (s, 0)
  | s, m + 1 => if (S.read (s : Int)).2 ≠ 0 then (0, (S.read (s : Int)).2) else if (S.read (s : Int)).1 ≠ markOf (s : Int) then (s, 0) else capR S (s + 1) m
/-- The slots from s, of m, are erased. -/
def capE (S : Dv) (t : Int) : Nat → Nat → Int × Dv
  | _, 0 => (0, S)
  | s, m + 1 => if (S.write t (s : Int) blank).1 = 0 then capE (S.write t (s : Int) blank).2 t (s + 1) m else S.write t (s : Int) blank
def capOf (S : Dv) (t : Int) : Int × Int × Dv :=
  if S.online = false then (0, 105, S)
  else if (capW S t S.claim.toNat).1 ≠ 0 then (0, (capW S t S.claim.toNat).1, (capW S t S.claim.toNat).2)
  else if (capR (capW S t S.claim.toNat).2 0 S.claim.toNat).2 ≠ 0 then (0, (capR (capW S t S.claim.toNat).2 0 S.claim.toNat).2, (capW S t S.claim.toNat).2)
  else if (capE (capW S t S.claim.toNat).2 t 0 (capR (capW S t S.claim.toNat).2 0 S.claim.toNat).1).1 ≠ 0 then (0, capE (capW S t S.claim.toNat).2 t 0 (capR (capW S t S.claim.toNat).2 0 S.claim.toNat).1)
  else ((capR (capW S t S.claim.toNat).2 0 S.claim.toNat).1, 0, (capE (capW S t S.claim.toNat).2 t 0 (capR (capW S t S.claim.toNat).2 0 S.claim.toNat).1).2)
theorem capOf_off {S : Dv} {t : Int} (h : S.online = false) : capOf S t = (0, 105, S) := by unfold capOf; rw [if_pos h]
theorem capOf_w {S T : Dv} {t er : Int} {n : Nat} (ho : S.online = true) (hn : S.claim = n) (h : capW S t n = (er, T)) (he : er ≠ 0) : capOf S t = (0, er, T) := by
  unfold capOf
  rw [if_neg (by simp [ho]), show S.claim.toNat = n by omega, h, if_pos he]
theorem capOf_r {S T : Dv} {t er : Int} {n m : Nat} (ho : S.online = true) (hn : S.claim = n) (h : capW S t n = (0, T)) (hr : capR T 0 n = (m, er)) (he : er ≠ 0) : capOf S t = (0, er, T) := by
  unfold capOf
  rw [if_neg (by simp [ho]), show S.claim.toNat = n by omega, h, if_neg (by simp), hr, if_pos he]
theorem capOf_e {S T F : Dv} {t er : Int} {n m : Nat} (ho : S.online = true) (hn : S.claim = n) (h : capW S t n = (0, T)) (hr : capR T 0 n = (m, 0)) (hE : capE T t 0 m = (er, F)) (he : er ≠ 0) : capOf S t = (0, er, F) := by
  unfold capOf
  rw [if_neg (by simp [ho]), show S.claim.toNat = n by omega, h, if_neg (by simp), hr, if_neg (by simp), hE, if_pos he]
theorem capOf_ok {S T F : Dv} {t : Int} {n m : Nat} (ho : S.online = true) (hn : S.claim = n) (h : capW S t n = (0, T)) (hr : capR T 0 n = (m, 0)) (hE : capE T t 0 m = (0, F)) : capOf S t = ((m : Int), 0, F) := by
  unfold capOf
  rw [if_neg (by simp [ho]), show S.claim.toNat = n by omega, h, if_neg (by simp), hr, if_neg (by simp), hE, if_neg (by simp)]
theorem write_claim (S : Dv) (t s : Int) (d : ByteArray) : (S.write t s d).2.claim = S.claim := by
  unfold Dv.write
  repeat' split
  all_goals first | rfl | skip
  unfold Dv.store
  repeat' split
  all_goals rfl
section
variable {w : World} {o : Own} {a : Nat} {S : Dv}
end
end Go.Proofs.Ytgeopgibjmhehaa

/- Good, Classify of the program. -/
namespace Go.Proofs.Ytgeopgibjmhehaa
open Go Go.RowKit Go.Sort

abbrev Wt.cells (q : Wt) : List Value := [.int .i64 q.slot, .int .i64 q.pc.vol, .int .i64 q.pc.frag, .int .i64 q.pc.stripe, .int .i64 q.pc.gen, .int .i64 q.pc.ver, .string q.pc.data]
theorem wt_length (q : Wt) : q.cells.length = 7 := rfl
abbrev WantsAt (w : World) (v : Value) (l : List Wt) : Prop := ArgSl w 7 v l.length (l.flatMap Wt.cells)
theorem WantsAt.cell {w : World} {b off : Nat} {l : List Wt} (h : ∀ j u, (l.flatMap Wt.cells)[j]? = some u → w.cell? ⟨b, off + j, none⟩ = some u) (k : Nat) (hk : k < l.length) (j : Nat) (u : Value) (hj : j < 7) (hv : l[k].cells[j]? = some u) :
    w.cell? ⟨b, off + k * 7 + j, none⟩ = some u := by
  rw [Nat.add_assoc]
  exact h _ _ ((flat_get Wt.cells 7 wt_length l k hk j hj).trans hv)
def ints (l : List Int) : List Value := l.map fun i => .int .i64 i
abbrev Ints (w : World) (o : Own) (v : Value) (l : List Int) : Prop := OwnSl w o 1 v l.length (ints l)
def isGood (st : Int) : Bool := st == 1 || st == 7
theorem Try.info_int : (Try.prog.info? 3).map (fun i => (i.zero, i.size, i.bytes)) = some (some (.int .i64 0), 1, 8) := by kernel_rfl
section
variable {w : World} {o : Own} {a : Nat} {S : Dv}
end
end Go.Proofs.Ytgeopgibjmhehaa

/- Capacity of a drive without faults. -/
namespace Go.Proofs.Ytgeopgibjmhehaa
open Go Go.RowKit Go.Sort

theorem mark_list (s : Int) : (markOf s).data.toList = encL 0 0 0 1 (s + 1) (zeros 16) := by unfold markOf; simp
theorem mark_size (s : Int) : (markOf s).size = 36 := by
  show (markOf s).data.size = 36
  rw [← Array.length_toList, mark_list]
  exact encL_length _ _ _ _ _ _ (by simp [zeros])
theorem mark_ver (s : Int) (h0 : 0 ≤ s) (h1 : s < 128) : fVer (markOf s).data.toList = s + 1 := by
  rw [mark_list]
  exact (dec_enc 0 0 0 1 (s + 1) (zeros 16) (mark_valid s h0 h1)).2.2.2.2.2.1
theorem mark_ne {s t : Int} (h0 : 0 ≤ s) (h1 : s < 128) (k0 : 0 ≤ t) (k1 : t < 128) (h : s ≠ t) : markOf s ≠ markOf t := by
  intro e
  have a := mark_ver s h0 h1
  have b := mark_ver t k0 k1
  rw [e, b] at a
  omega
/-- A drive online with no fault pending. -/
structure Fine (S : Dv) (n m : Nat) (t : Int) : Prop where
  ok : S.Ok
  claim : S.claim = n
  real : S.secs.length = m
  on : S.online = true
  pend : S.pend = []
  term : S.term ≤ t
/-- The drive with one sector put. -/
def setAt (S : Dv) (t : Int) (j : Nat) (d : ByteArray) : Dv := { S with term := t, secs := S.secs.set j ⟨d, false, false⟩ }
section
variable {S : Dv} {n m : Nat} {t : Int}
theorem Fine.write (h : Fine S n m t) (k : Nat) (hk : k < n) (d : ByteArray) (hd : d.size = 36) : S.write t k d = (0, setAt S t (k % m) d) ∧ Fine (setAt S t (k % m) d) n m t := by
  have e : S.write t k d = (0, setAt S t (k % m) d) := by
    unfold Dv.write
    rw [if_neg (by rw [h.on]; simp), if_neg (by have := h.term; omega), if_neg (by unfold Dv.slot; rw [h.claim]; simp; omega), if_neg (by rw [hd]; simp)]
    unfold Dv.store
    have h1 := h.pend
    have h2 := h.real
    obtain ⟨c, secs, off, dead, term, pend⟩ := S
    dsimp only at h1 h2
    subst h1
    show ((0 : Int), Dv.put ⟨c, secs, off, dead, t, []⟩ k ⟨d, false, false⟩) = _
    unfold Dv.put setAt Dv.at_
    rw [show (((k : Int) % (((⟨c, secs, off, dead, t, []⟩ : Dv).secs.length : Nat) : Int)).toNat) = k % m by
      rw [show (⟨c, secs, off, dead, t, []⟩ : Dv).secs.length = m from h2]
      omega]
  refine ⟨e, ⟨?_, h.claim, ?_, h.on, h.pend, Int.le_refl _⟩⟩
  · have := h.ok.write t k d
    rw [e] at this
    exact this
  · show (S.secs.set _ _).length = m
    rw [List.length_set, h.real]
theorem Fine.read (h : Fine S n m t) (k : Nat) (hk : k < n) {x : Sec} (hx : S.secs[k % m]? = some x) (hu : x.un = false) : S.read k = (x.data, 0) := by
  have hg : S.get k = x := by
    unfold Dv.get Dv.at_
    rw [h.real, show ((k : Int) % (m : Int)).toNat = k % m by omega, List.getD_eq_getElem?_getD, hx]
    rfl
  unfold Dv.read
  rw [if_neg (by rw [h.on]; simp), if_neg (by unfold Dv.slot; rw [h.claim]; simp; omega), hg, if_neg (by rw [hu]; simp)]
theorem capW_fine (hm : 1 ≤ m) (hmn : m ≤ n) : ∀ (k : Nat) (S : Dv), Fine S n m t → k ≤ n → (∀ j, k ≤ j → j < m → S.secs[j]? = some ⟨markOf j, false, false⟩) →
    ∃ F, capW S t k = (0, F) ∧ Fine F n m t ∧ (0 < k ∨ S.term = t → F.term = t) ∧ ∀ j, j < m → F.secs[j]? = some ⟨markOf j, false, false⟩
  | 0, S, h, _, hj => ⟨S, rfl, h, fun e => by rcases e with e | e; omega; exact e, fun j hlt => hj j (by omega) hlt⟩
  | k + 1, S, h, hk, hj => by
    obtain ⟨e, h2⟩ := h.write k (by omega) (markOf k) (mark_size _)
    obtain ⟨F, f1, f2, f3, f4⟩ := capW_fine hm hmn k (setAt S t (k % m) (markOf k)) h2 (by omega) (fun j h1 hlt => by
      show (S.secs.set _ _)[j]? = _
      by_cases hjk : j = k
      · subst hjk
        rw [Nat.mod_eq_of_lt hlt, List.getElem?_set_self (by rw [h.real]; exact hlt)]
      · have hne : k % m ≠ j := by have := Nat.mod_le k m; omega
        rw [List.getElem?_set_ne hne]
        exact hj j (by omega) hlt)
    refine ⟨F, ?_, f2, fun _ => f3 (.inr rfl), f4⟩
    show (if (S.write t (k : Int) (markOf (k : Int))).1 = 0 then capW (S.write t (k : Int) (markOf (k : Int))).2 t k else S.write t (k : Int) (markOf (k : Int))) = _
    rw [e, if_pos rfl]
    exact f1
theorem capR_fine (h : Fine S n m t) (hm : 1 ≤ m) (hmn : m ≤ n) (hn : n ≤ 128) (hj : ∀ j, j < m → S.secs[j]? = some ⟨markOf j, false, false⟩) : ∀ r s, s + r = n → s ≤ m → capR S s r = (m, 0)
  | 0, s, h1, h2 => by
    show (s, (0 : Int)) = _
    rw [show s = m by omega]
  | r + 1, s, h1, h2 => by
    show (if (S.read (s : Int)).2 ≠ 0 then (0, (S.read (s : Int)).2) else if (S.read (s : Int)).1 ≠ markOf (s : Int) then (s, 0) else capR S (s + 1) r) = _
    rw [h.read s (by omega) (hj (s % m) (Nat.mod_lt _ (by omega))) rfl, if_neg (by simp)]
    by_cases hs : s < m
    · rw [Nat.mod_eq_of_lt hs, if_neg (by simp)]
      exact capR_fine h hm hmn hn hj r (s + 1) (by omega) (by omega)
    · obtain rfl : s = m := by omega
      rw [Nat.mod_self, if_pos (mark_ne (by omega) (by omega) (by omega) (by omega) (by omega))]
theorem capE_fine (hmn : m ≤ n) : ∀ (r s : Nat) (S : Dv), Fine S n m t → s + r = m → (∀ j, j < s → S.secs[j]? = some blankSec) →
    ∃ F, capE S t s r = (0, F) ∧ Fine F n m t ∧ (S.term = t → F.term = t) ∧ ∀ j, j < m → F.secs[j]? = some blankSec
  | 0, s, S, h, hs, hj => ⟨S, rfl, h, id, fun j hlt => hj j (by omega)⟩
  | r + 1, s, S, h, hs, hj => by
    obtain ⟨e, h2⟩ := h.write s (by omega) blank rfl
    rw [Nat.mod_eq_of_lt (by omega)] at e h2
    obtain ⟨F, f1, f2, f3, f4⟩ := capE_fine hmn r (s + 1) (setAt S t s blank) h2 (by omega) (fun j h1 => by
      show (S.secs.set _ _)[j]? = _
      by_cases hjk : j = s
      · subst hjk
        rw [List.getElem?_set_self (by rw [h.real]; omega)]
        rfl
      · rw [List.getElem?_set_ne (by omega)]
        exact hj j (by omega))
    refine ⟨F, ?_, f2, fun _ => f3 rfl, f4⟩
    show (if (S.write t (s : Int) blank).1 = 0 then capE (S.write t (s : Int) blank).2 t (s + 1) r else S.write t (s : Int) blank) = _
    rw [e, if_pos rfl]
    exact f1
theorem cap_fine (h : Fine S n m t) (hm : 1 ≤ m) (hmn : m ≤ n) (hn : n ≤ 128) : ∃ F, capOf S t = ((m : Int), 0, F) ∧ Fine F n m t ∧ F.term = t ∧ F.secs = List.replicate m blankSec := by
  obtain ⟨T, a1, a2, a3, a4⟩ := capW_fine hm hmn n S h (Nat.le_refl _) (fun j h1 h2 => by omega)
  have b := capR_fine a2 hm hmn hn a4 n 0 (by omega) (by omega)
  obtain ⟨F, c1, c2, c3, c4⟩ := capE_fine hmn m 0 T a2 (by omega) (fun j h1 => by omega)
  refine ⟨F, capOf_ok h.on h.claim a1 b c1, c2, c3 (a3 (.inl (by omega))), List.ext_getElem? fun j => ?_⟩
  by_cases hj : j < m
  · rw [c4 j hj, List.getElem?_replicate, if_pos hj]
  · rw [List.getElem?_eq_none (by rw [c2.real]; omega), List.getElem?_replicate, if_neg hj]
theorem err_blank_sec : errOf blank.data.toList = 102 := err_blank _ rfl rfl
theorem Fine.read_blank (h : Fine S n m t) (hm : 1 ≤ m) (hs : S.secs = List.replicate m blankSec) (k : Nat) (hk : k < n) : S.read k = (blank, 0) :=
  h.read k hk (x := blankSec) (by rw [hs, List.getElem?_replicate, if_pos (Nat.mod_lt _ (by omega))]) rfl
theorem inv_blank (h : Fine S n m t) (hm : 1 ≤ m) (hs : S.secs = List.replicate m blankSec) : invOf S = [] := by
  unfold invOf
  rw [if_pos h.on, show S.claim.toNat = n by have := h.claim; omega]
  have : ∀ k, k ≤ n → inv S k = [] := by
    intro k
    induction k with
    | zero => intro _; rfl
    | succ k ih =>
      intro hk
      rw [inv_succ, ih (by omega)]
      unfold held1
      rw [h.read_blank hm hs k (by omega), if_neg (by rintro ⟨_, e⟩; rw [err_blank_sec] at e; omega)]
      rfl
  exact this n (Nat.le_refl _)
theorem state_blank (h : Fine S n m t) (hm : 1 ≤ m) (hs : S.secs = List.replicate m blankSec) (k : Nat) (hk : k < n) (p : Pc) : stateOf S ⟨k, p⟩ = 2 := by
  unfold stateOf seen
  dsimp only
  rw [h.read_blank hm hs k hk, if_neg (by decide), if_neg (by decide), if_neg (by simp), if_pos err_blank_sec]
theorem state_range (h : Fine S n m t) (s : Int) (hk : s < 0 ∨ n ≤ s) (p : Pc) : stateOf S ⟨s, p⟩ = 10 := by
  have : S.read s = (⟨#[]⟩, 5) := by
    unfold Dv.read
    rw [if_neg (by rw [h.on]; simp), if_pos (by unfold Dv.slot; rw [h.claim]; simp; omega)]
  unfold stateOf
  dsimp only
  rw [this, if_neg (by decide), if_pos rfl]
end
theorem fine_new (n m : Nat) (t : Int) (h1 : 1 ≤ m) (h2 : m ≤ n) (h3 : n ≤ 128) (ht : 0 ≤ t) : Fine (newDv n m) n m t :=
  ⟨newDv_ok n m h1 (by omega) (by omega), rfl, by simp [newDv], rfl, rfl, ht⟩
end Go.Proofs.Ytgeopgibjmhehaa

/- The law's own check. -/
namespace Go.Proofs.Ytgeopgibjmhehaa
open Go Go.RowKit Go.Sort

def zpc : Pc := ⟨0, 0, 0, 0, 0, ⟨#[]⟩⟩
theorem wants_new {w : World} {b : Nat} {l : List Wt} {e : TypeId} (h : w.heap[b]? = some (.cells (l.flatMap Wt.cells).toArray e)) (hm : l.length ≤ maxLen) (c : Nat) : WantsAt w (.slice (some ⟨b, 0, none⟩) l.length c) l := by
  refine ⟨flat_length Wt.cells 7 wt_length l, hm, _, c, rfl, fun _ => ⟨b, 0, rfl, (Array.getElem?_eq_some_iff.1 h).1, fun j u hu => ?_⟩⟩
  have := cell_block h j
  rw [Nat.zero_add]
  simpa [hu] using this
theorem ints_two {w : World} {o : Own} {v : Value} {x y : Int} (h : Ints w o v [x, y]) : ∃ g off c, v = .slice (some ⟨g, off, none⟩) 2 c ∧ w.cell? ⟨g, off, none⟩ = some (.int .i64 x) ∧ w.cell? ⟨g, off + 1, none⟩ = some (.int .i64 y) := by
  obtain ⟨g, off, c, rfl, _, _, _, _, hc, _⟩ := OwnSl.some_ h (by simp)
  exact ⟨g, off, c, rfl, hc 0 _ rfl, hc 1 _ rfl⟩
end Go.Proofs.Ytgeopgibjmhehaa
