/- Rows of sectors in memory (three cells each), whatever the program; Within. -/
import Derived.Test.YtpoaadjhaknhdaaRows
import Derived.Test.YtpoaadjhaknhdaaMem
import Derived.Test.YtpoaadjhaknhdaaQuiet
import Derived.WalkLawsBesides
import Derived.WalkSpells
import Derived.Outline
import Derived.Deep.MidRow
namespace Go.Proofs.Ytpoaadjhaknhdaa
open Go Go.RowKit Go.Sort

/-- One real sector. -/
structure Sec where
  data : ByteArray
  un : Bool
  dam : Bool
def Sec.cells (s : Sec) : List Value := [.string s.data, .bool s.un, .bool s.dam]
/-- The sectors l lie in block b, from place 0 on. -/
structure SecsAt (w : World) (b : Nat) (l : List Sec) : Prop where
  lt : b < w.heap.size
  range : ∀ i (h : i < l.length), w.rangeAt b (i * 3) l[i].cells
  free : ∀ i, i < l.length → w.there b (i * 3) 3

theorem SecsAt.of_block {w w' : World} {b : Nat} {l : List Sec} (h : SecsAt w b l) (hs : w.heap.size ≤ w'.heap.size) (hb : w'.heap[b]? = w.heap[b]?) : SecsAt w' b l :=
  ⟨Nat.lt_of_lt_of_le h.lt hs, fun i hi j v hv => (World.cell?_of_block (w := w) (a := ⟨b, i * 3 + j, none⟩) hb).trans (h.range i hi j v hv),
    fun i hi j hj => ⟨by rw [World.cell?_of_block (w := w) (a := ⟨b, i * 3 + j, none⟩) hb]; exact (h.free i hi j hj).1, (World.frozen?_of_block (w := w) (a := ⟨b, i * 3 + j, none⟩) hb).trans (h.free i hi j hj).2⟩⟩
theorem SecsAt.below {w w' : World} {B b : Nat} {l : List Sec} (h : SecsAt w b l) (hb : Below B w w') (hlt : b < B) : SecsAt w' b l := h.of_block hb.size (hb.block b hlt)
theorem SecsAt.alloc {w : World} {b : Nat} {l : List Sec} (h : SecsAt w b l) (o : Obj) : SecsAt (w.alloc o) b l := h.of_block (by simp) (Below.heap_alloc w o b h.lt)
theorem SecsAt.other {w : World} {b : Nat} {l : List Sec} (h : SecsAt w b l) (a : Addr) (v : Value) (hne : b ≠ a.block) : SecsAt (w.setCell a v) b l :=
  h.of_block (by simp) (Below.heap_setCell w a v b hne)
theorem SecsAt.eq {w : World} {b : Nat} {l l' : List Sec} (h : SecsAt w b l) (e : l = l') : SecsAt w b l' := e ▸ h
theorem SecsAt.cells {w : World} {b : Nat} {l : List Sec} (h : SecsAt w b l) (i : Nat) (hi : i < l.length) :
    w.cell? ⟨b, i * 3, none⟩ = some (.string l[i].data) ∧ w.cell? ⟨b, i * 3 + 1, none⟩ = some (.bool l[i].un) ∧ w.cell? ⟨b, i * 3 + 2, none⟩ = some (.bool l[i].dam) :=
  ⟨h.range i hi 0 _ rfl, h.range i hi 1 _ rfl, h.range i hi 2 _ rfl⟩
theorem SecsAt.frees {w : World} {b : Nat} {l : List Sec} (h : SecsAt w b l) (i : Nat) (hi : i < l.length) :
    w.frozen? ⟨b, i * 3, none⟩ = false ∧ w.frozen? ⟨b, i * 3 + 1, none⟩ = false ∧ w.frozen? ⟨b, i * 3 + 2, none⟩ = false :=
  ⟨(h.free i hi 0 (by omega)).2, (h.free i hi 1 (by omega)).2, (h.free i hi 2 (by omega)).2⟩

theorem below_setCells {B : Nat} {a : World} (b : Nat) (hB : B ≤ b) : ∀ (cs : List Value) (o : Nat) (w : World), Below B a w → Below B a (w.setCells b o cs)
  | [], _, _, h => h
  | v :: r, o, _, h => below_setCells b hB r (o + 1) _ (h.setCell hB v)
theorem size_setCells (b : Nat) : ∀ (cs : List Value) (o : Nat) (w : World), (w.setCells b o cs).heap.size = w.heap.size
  | [], _, _ => rfl
  | v :: r, o, w => (size_setCells b r (o + 1) _).trans (by simp)

/-- A whole sector is stored. -/
theorem SecsAt.store {w : World} {b : Nat} {l : List Sec} (h : SecsAt w b l) (i : Nat) (s : Sec) (hi : i < l.length) : SecsAt (w.setCells b (i * 3) s.cells) b (l.set i s) := by
  refine ⟨by rw [size_setCells]; exact h.lt, fun j hj => ?_, fun j hj => ?_⟩
  · rw [List.length_set] at hj
    by_cases e : i = j
    · subst e
      rw [List.getElem_set_self]
      exact World.rangeAt_setCells_same w b (i * 3) s.cells (h.free i hi)
    · rw [List.getElem_set_ne e]
      refine World.rangeAt_setCells_apart (h.range j hj) b (i * 3) s.cells (.inr ?_)
      simp only [Sec.cells, List.length_cons, List.length_nil]
      omega
  · rw [List.length_set] at hj
    exact World.there_setCells (h.free j hj) _ _ _

/-- n sectors as 'make' lays them. -/
def rawSec : Sec := ⟨⟨#[]⟩, false, false⟩
theorem secs_new (w : World) (n : Nat) (t : TypeId) : SecsAt (w.alloc (.cells (madeCells #[.string ⟨#[]⟩, .bool false, .bool false] (n * 3)) t)) w.heap.size (List.replicate n rawSec) := by
  have hc : ∀ i j, i < n → j < 3 → (w.alloc (.cells (madeCells #[.string ⟨#[]⟩, .bool false, .bool false] (n * 3)) t)).cell? ⟨w.heap.size, i * 3 + j, none⟩ = some (#[Value.string ⟨#[]⟩, .bool false, .bool false][j]!) := by
    intro i j hi hj
    rw [World.cell?_alloc_new]
    unfold madeCells
    have : i * 3 + j < n * 3 := by omega
    simp [this, Nat.add_mod, Nat.mod_eq_of_lt hj]
  refine ⟨by simp, fun i hi j v hv => ?_, fun i hi j hj => ⟨?_, World.frozen?_alloc_new w _ t _⟩⟩
  · rw [List.length_replicate] at hi
    have hj : j < 3 := (List.getElem?_eq_some_iff.1 hv).1
    rw [hc i j hi hj]
    rw [List.getElem_replicate] at hv
    match j, hj with
    | 0, _ => exact hv
    | 1, _ => exact hv
    | 2, _ => exact hv
  · rw [List.length_replicate] at hi
    rw [hc i j hi hj]
    rfl

/-- The values l lie in block a, from place 0 on, and may be written. -/
structure ValsAt (w : World) (a : Nat) (l : List Value) : Prop where
  lt : a < w.heap.size
  cell : ∀ k (h : k < l.length), w.cell? ⟨a, k, none⟩ = some l[k]
  free : ∀ k, k < l.length → w.frozen? ⟨a, k, none⟩ = false
theorem ValsAt.of_block {w w' : World} {b : Nat} {l : List Value} (h : ValsAt w b l) (hs : w.heap.size ≤ w'.heap.size) (hb : w'.heap[b]? = w.heap[b]?) : ValsAt w' b l :=
  ⟨Nat.lt_of_lt_of_le h.lt hs, fun k hk => (World.cell?_of_block (w := w) (a := ⟨b, k, none⟩) hb).trans (h.cell k hk), fun k hk => (World.frozen?_of_block (w := w) (a := ⟨b, k, none⟩) hb).trans (h.free k hk)⟩
theorem ValsAt.below {w w' : World} {B b : Nat} {l : List Value} (h : ValsAt w b l) (hb : Below B w w') (hlt : b < B) : ValsAt w' b l := h.of_block hb.size (hb.block b hlt)
theorem ValsAt.alloc {w : World} {b : Nat} {l : List Value} (h : ValsAt w b l) (o : Obj) : ValsAt (w.alloc o) b l := h.of_block (by simp) (Below.heap_alloc w o b h.lt)
theorem ValsAt.other {w : World} {b : Nat} {l : List Value} (h : ValsAt w b l) (a : Addr) (v : Value) (hne : b ≠ a.block) : ValsAt (w.setCell a v) b l :=
  h.of_block (by simp) (Below.heap_setCell w a v b hne)
theorem ValsAt.grown {w w' : World} {b r : Nat} {l : List Value} (h : ValsAt w b l) (hg : w.grownBy w' (some r)) (hne : b ≠ r) : ValsAt w' b l :=
  h.of_block hg.size (hg.block b h.lt (by intro e; exact hne (Option.some.inj e)))
theorem ValsAt.store {w : World} {b : Nat} {l : List Value} (h : ValsAt w b l) (k : Nat) (v : Value) (hk : k < l.length) : ValsAt (w.setCell ⟨b, k, none⟩ v) b (l.set k v) := by
  refine ⟨by simpa using h.lt, ?_, ?_⟩
  · intro j hj
    rw [List.length_set] at hj
    by_cases hjk : k = j
    · subst hjk
      rw [World.cell?_setCell_same _ _ _ (h.cell k hk)]
      simp
    · rw [World.cell?_setCell_other _ _ _ _ (by intro e; injection e with _ e2; exact hjk e2), h.cell j hj]
      simp [List.getElem_set_ne hjk]
  · intro j hj
    rw [World.frozen?_setCell]
    exact h.free j (by simpa using hj)
theorem vals_new (w : World) (l : List Value) (t : TypeId) : ValsAt (w.alloc (.cells l.toArray t)) w.heap.size l := by
  refine ⟨by simp, ?_, ?_⟩
  · intro k hk
    rw [World.cell?_alloc_new]
    simp [hk]
  · intro k _
    exact World.frozen?_alloc_new w _ t k

/-- What a drive is. -/
structure DS where
  claim : Int
  secs : List Sec
  off : Bool
  dead : Bool
  term : Int
def DS.vals (S : DS) (b : Nat) (pv : Value) : List Value := [.int .i64 S.claim, .slice (some ⟨b, 0, none⟩) S.secs.length S.secs.length, .bool S.off, .bool S.dead, .int .i64 S.term, pv]
/-- The drive S lies in block a, its sectors in block b; pv: the slice of its pending faults. -/
structure DrvAt (w : World) (a b : Nat) (S : DS) (pv : Value) : Prop where
  vals : ValsAt w a (S.vals b pv)
  secs : SecsAt w b S.secs
  ne : a ≠ b
theorem DrvAt.below {w w' : World} {B a b : Nat} {S : DS} {pv : Value} (h : DrvAt w a b S pv) (hb : Below B w w') (ha : a < B) (hbb : b < B) : DrvAt w' a b S pv := ⟨h.vals.below hb ha, h.secs.below hb hbb, h.ne⟩
theorem DrvAt.cells {w : World} {a b : Nat} {S : DS} {pv : Value} (h : DrvAt w a b S pv) :
    w.cell? ⟨a, 0, none⟩ = some (.int .i64 S.claim) ∧ w.cell? ⟨a, 1, none⟩ = some (.slice (some ⟨b, 0, none⟩) S.secs.length S.secs.length) ∧ w.cell? ⟨a, 2, none⟩ = some (.bool S.off) ∧ w.cell? ⟨a, 3, none⟩ = some (.bool S.dead) ∧ w.cell? ⟨a, 4, none⟩ = some (.int .i64 S.term) ∧ w.cell? ⟨a, 5, none⟩ = some pv :=
  ⟨h.vals.cell 0 (by simp [DS.vals]), h.vals.cell 1 (by simp [DS.vals]), h.vals.cell 2 (by simp [DS.vals]), h.vals.cell 3 (by simp [DS.vals]), h.vals.cell 4 (by simp [DS.vals]), h.vals.cell 5 (by simp [DS.vals])⟩
theorem DrvAt.free {w : World} {a b : Nat} {S : DS} {pv : Value} (h : DrvAt w a b S pv) (k : Nat) (hk : k < 6) : w.frozen? ⟨a, k, none⟩ = false := h.vals.free k (by simpa [DS.vals] using hk)
theorem DrvAt.term {w : World} {a b : Nat} {S : DS} {pv : Value} (h : DrvAt w a b S pv) (t : Int) : DrvAt (w.setCell ⟨a, 4, none⟩ (.int .i64 t)) a b { S with term := t } pv :=
  ⟨h.vals.store 4 (.int .i64 t) (by simp [DS.vals]), h.secs.other _ _ (Ne.symm h.ne), h.ne⟩
theorem DrvAt.offTo {w : World} {a b : Nat} {S : DS} {pv : Value} (h : DrvAt w a b S pv) (t : Bool) : DrvAt (w.setCell ⟨a, 2, none⟩ (.bool t)) a b { S with off := t } pv :=
  ⟨h.vals.store 2 (.bool t) (by simp [DS.vals]), h.secs.other _ _ (Ne.symm h.ne), h.ne⟩
theorem ValsAt.setCells {w : World} {a b : Nat} {l : List Value} (h : ValsAt w a l) (hne : a ≠ b) : ∀ (cs : List Value) (o : Nat) (w1 : World), ValsAt w1 a l → ValsAt (w1.setCells b o cs) a l
  | [], _, _, k => k
  | _ :: r, o, _, k => ValsAt.setCells h hne r (o + 1) _ (k.other _ _ hne)
theorem DrvAt.write {w : World} {a b : Nat} {S : DS} {pv : Value} (h : DrvAt w a b S pv) (i : Nat) (s : Sec) (hi : i < S.secs.length) : DrvAt (w.setCells b (i * 3) s.cells) a b { S with secs := S.secs.set i s } pv :=
  ⟨by
    have := ValsAt.setCells h.vals h.ne s.cells (i * 3) w h.vals
    simpa [DS.vals] using this, h.secs.store i s hi, h.ne⟩

theorem tmod_add (x n : Int) (h1 : 1 ≤ n) (h : x.tmod n < 0) : x.tmod n + n = x % n := by
  have e1 := Int.tmod_eq_emod (a := x) (b := n)
  have a := Int.emod_nonneg x (show n ≠ 0 by omega)
  have b := Int.emod_lt_of_pos x (show 0 < n by omega)
  rw [e1] at h ⊢
  split at h
  · omega
  · have : (n.natAbs : Int) = n := by omega
    rw [if_neg (by assumption), this]; omega
theorem tmod_keep (x n : Int) (h1 : 1 ≤ n) (h : 0 ≤ x.tmod n) : x.tmod n = x % n := by
  have e1 := Int.tmod_eq_emod (a := x) (b := n)
  have a := Int.emod_nonneg x (show n ≠ 0 by omega)
  have b := Int.emod_lt_of_pos x (show 0 < n by omega)
  rw [e1] at h ⊢
  split at h
  · rw [if_pos (by assumption)]; omega
  · have : (n.natAbs : Int) = n := by omega
    rw [this] at h; omega

/-- Within: the remainder that is not negative. -/
theorem within_any (x n : Int) (w : World) (h1 : 1 ≤ n) (h2 : n ≤ 4611686018427387904) :
    Calls Try.prog 6 #[.int .i64 x, .int .i64 n] w fun e w' => e = .returned (.int .i64 (x % n)) ∧ w = w' := by
  have a := Int.emod_nonneg x (show n ≠ 0 by omega)
  have b := Int.emod_lt_of_pos x (show 0 < n by omega)
  have c := Int.tmod_lt_of_pos x (show 0 < n by omega)
  have d := Int.lt_tmod_of_pos x (show 0 < n by omega)
  by_cases hx : 0 ≤ x
  · go_enter Try.func6, Try.ntmps6
    go_wp2
    go_ret
    exact ⟨rfl, rfl⟩
  · by_cases ht : x.tmod n < 0
    · have H := hid (tmod_add x n h1 ht)
      go_enter Try.func6, Try.ntmps6
      go_wp2
      go_ret
      exact ⟨by rw [← H.out]; rfl, rfl⟩
    · have H := hid (tmod_keep x n h1 (by omega))
      go_enter Try.func6, Try.ntmps6
      go_wp2
      go_ret
      exact ⟨by rw [← H.out]; rfl, rfl⟩

end Go.Proofs.Ytpoaadjhaknhdaa
