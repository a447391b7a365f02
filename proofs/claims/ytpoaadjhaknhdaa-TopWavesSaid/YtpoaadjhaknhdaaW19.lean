/- IsName, unique. -/
import Derived.Test.YtpoaadjhaknhdaaW18
import Derived.WideMake
namespace Go.Proofs.Ytpoaadjhaknhdaa
open Go Go.RowKit Go.Sort Go.Deep

/-- A set of texts that the call makes. -/
structure SetAt (w : World) (r : Nat) (es : Array MapEntry) (clock : Nat) : Prop where
  heap : w.heap[r]? = some (.map es clock)
  keys : ∀ e ∈ es.toList, ∃ s, e.key = .string s ∧ e.val = .bool true
theorem find_set (s : ByteArray) : ∀ (l : List MapEntry) (i : Nat), (∀ e ∈ l, ∃ s, e.key = .string s ∧ e.val = .bool true) → Instr.findNow .string (.string s) l i = some none ∨ ∃ j, Instr.findNow .string (.string s) l i = some (some (j, .bool true))
  | [], _, _ => .inl rfl
  | e :: l, i, h => by
    obtain ⟨x, hx, hv⟩ := h e (by simp)
    rw [Instr.findNow, hx]
    cases hs : (s == x)
    case true => exact .inr ⟨i, by simp [Instr.sameNow, hv, hs]⟩
    case false =>
      simp only [Instr.sameNow, hs]
      exact find_set s l (i + 1) (fun e he => h e (by simp [he]))
theorem run_seen {w : World} {r : Nat} {es : Array MapEntry} {clock : Nat} (h : SetAt w r es clock) (s : ByteArray) :
    ((Instr.lookup 122 (.map (some r)) (.string s) false).run Try.prog w = .ok (.bool true) w) ∨
    ((Instr.lookup 122 (.map (some r)) (.string s) false).run Try.prog w = .ok (.bool false) w ∧ ∃ w', (Instr.mapUpdate 122 (.map (some r)) (.string s) (.bool true)).run Try.prog w = .ok () w' ∧ (∃ es' c', SetAt w' r es' c') ∧ ∀ B, B ≤ r → Below B w w') := by
  have hc : ∀ em, (Instr.checkKey em 10000 9 (.string s)).run Try.prog w = .ok () w := fun em => MapKept.run_checkKey (k := .string s) Try.underlying9 (by simp [MapKept.IsKey]) em 9999
  have hz : (zeroValue 4).run Try.prog w = .ok (.bool false) w := by kernel_rfl
  rcases find_set s es.toList 0 h.keys with hf | ⟨j, hf⟩
  · refine .inr ⟨?_, ?_⟩
    · simp [Instr.lookup, run_underlying Try.underlying122, MapKept.run_getObj_map h.heap, hc, MapKept.run_findKey Try.underlying9 hf, hz, Result.andThen]
    · refine ⟨{ w with heap := w.heap.setIfInBounds r (.map (es.push { key := .string s, val := .bool true, born := clock }) (clock + 1)) }, ?_, ⟨_, _, (MapKept.heap_set h.heap).1, ?_⟩, fun B hB => ⟨rfl, rfl, rfl, by simp, fun k hk => (MapKept.heap_set h.heap).2 k (by omega)⟩⟩
      · simp [Instr.mapUpdate, run_underlying Try.underlying122, MapKept.run_getObj_map h.heap, hc, MapKept.run_findKey Try.underlying9 hf, MapKept.run_setObj_map _ h.heap, Result.andThen]
      · intro e he
        rw [Array.toList_push, List.mem_append] at he
        rcases he with he | he
        · exact h.keys e he
        · simp at he; subst he; exact ⟨s, rfl, rfl⟩
  · refine .inl ?_
    simp [Instr.lookup, run_underlying Try.underlying122, MapKept.run_getObj_map h.heap, hc, MapKept.run_findKey Try.underlying9 hf, Result.andThen]
def PurePost (w : World) (e : Ending) (w' : World) : Prop := (∃ b : Bool, e = .returned (.bool b)) ∧ w = w'
set_option maxHeartbeats 800000 in
theorem letter_any (x : Int) (w : World) : Calls Try.prog 80 #[.int .u8 x] w (PurePost w) := by
  by_cases h1 : 97 ≤ x <;> by_cases h2 : x ≤ 122 <;> by_cases h3 : 65 ≤ x <;> by_cases h4 : x ≤ 90
  all_goals
    go_enter Try.func80, Try.ntmps80
    go_wp2
    go_ret
    exact ⟨⟨_, rfl⟩, rfl⟩
theorem digit_any (x : Int) (w : World) : Calls Try.prog 89 #[.int .u8 x] w (PurePost w) := by
  by_cases h1 : 48 ≤ x <;> by_cases h2 : x ≤ 57
  all_goals
    go_enter Try.func89, Try.ntmps89
    go_wp2
    go_ret
    exact ⟨⟨_, rfl⟩, rfl⟩
theorem inner_any (x : Int) (w : World) : Calls Try.prog 81 #[.int .u8 x] w (PurePost w) := by
  go_enter Try.func81, Try.ntmps81
  go_wp2_with fail
  refine (letter_any x w).mono ?_
  rintro e w2 ⟨⟨b, rfl⟩, rfl⟩
  cases b
  case true =>
    go_wp2
    go_ret
    exact ⟨⟨_, rfl⟩, rfl⟩
  go_wp2_with fail
  refine (digit_any x w).mono ?_
  rintro e w2 ⟨⟨b, rfl⟩, rfl⟩
  cases b
  case true =>
    go_wp2
    go_ret
    exact ⟨⟨_, rfl⟩, rfl⟩
  by_cases h1 : x = 45
  · subst h1
    go_wp2
    go_ret
    exact ⟨⟨_, rfl⟩, rfl⟩
  · have h2 : (x == 45) = false := by rw [beq_eq_false_iff_ne]; exact h1
    go_wp2
    go_ret
    exact ⟨⟨_, rfl⟩, rfl⟩
theorem not_empty {s : ByteArray} (h : s.toList.isEmpty = false) : 0 < s.size := by
  rcases Nat.eq_zero_or_pos s.size with h0 | h0
  · obtain ⟨d⟩ := s
    have : d = #[] := Array.eq_empty_of_size_eq_zero h0
    subst this
    exact absurd h (by simp [ByteArray.toList, ByteArray.toList.loop, ByteArray.size])
  · exact h0
set_option maxRecDepth 100000 in
set_option maxHeartbeats 1600000 in
theorem isname_any (s : ByteArray) (w : World) : Calls Try.prog 56 #[.string s] w (PurePost w) := by
  cases he : s.toList.isEmpty
  case true =>
    go_enter Try.func56, Try.ntmps56
    go_wp2
    go_ret
    exact ⟨⟨_, rfl⟩, rfl⟩
  have h0 := not_empty he
  by_cases h16 : 16 < s.size
  · go_enter Try.func56, Try.ntmps56
    go_wp2
    go_ret
    exact ⟨⟨_, rfl⟩, rfl⟩
  · go_enter Try.func56, Try.ntmps56
    go_wp2_with fail
    refine (letter_any _ w).mono ?_
    rintro e w2 ⟨⟨b, rfl⟩, rfl⟩
    cases b
    · go_wp2
      go_ret
      exact ⟨⟨_, rfl⟩, rfl⟩
    go_wp2_with fail
    go_loop [3] (fun i => ∃ k : Nat, k ≤ s.size ∧ i = .int .i64 k) (fun i => (s.size - intOf i).toNat)
    case atStart => exact ⟨0, by omega, rfl⟩
    case round =>
      obtain ⟨k, hk, rfl⟩ := hrel
      by_cases hlt : k < s.size
      · go_wp2_with fail
        refine (inner_any _ w).mono ?_
        rintro e w2 ⟨⟨b, rfl⟩, rfl⟩
        cases b
        · go_wp2
          go_ret
          exact ⟨⟨_, rfl⟩, rfl⟩
        · go_wp2
          go_round
          case rel => exact ⟨k + 1, by omega, by go_num⟩
          case measure => (simp [intOf]; try omega)
      · obtain rfl : k = s.size := by omega
        go_wp2
        go_ret
        exact ⟨⟨_, rfl⟩, rfl⟩
/-- A slice of texts. -/
def StrsAt (w : World) (v : Value) (n : Nat) : Prop := ∃ A c, v = .slice A n c ∧ n ≤ c ∧ c ≤ maxLen ∧ (0 < n → ∃ g off, A = some ⟨g, off, none⟩ ∧ g < w.heap.size ∧ ∀ j, j < n → ∃ x : ByteArray, w.cell? ⟨g, off + j, none⟩ = some (.string x))
theorem StrsAt.below {w w' : World} {v : Value} {n : Nat} (h : StrsAt w v n) (hb : Below w.heap.size w w') : StrsAt w' v n := by
  obtain ⟨A, c, e, h1, h2, h3⟩ := h
  refine ⟨A, c, e, h1, h2, fun h0 => ?_⟩
  obtain ⟨g, off, e2, hg, h4⟩ := h3 h0
  refine ⟨g, off, e2, Nat.lt_of_lt_of_le hg hb.size, fun j hj => ?_⟩
  obtain ⟨x, hx⟩ := h4 j hj
  exact ⟨x, (hb.cell (p := ⟨g, off + j, none⟩) hg).trans hx⟩
set_option maxRecDepth 100000 in
set_option maxHeartbeats 1600000 in
theorem unique_any {w : World} {v : Value} {n : Nat} (h : StrsAt w v n) : Calls Try.prog 42 #[v] w (BoolPost w) := by
  obtain ⟨A, c, rfl, hn, hc, hs⟩ := h
  have HS := hid hs
  have HM0 := hid (show SetAt (w.alloc (.map #[] 0)) w.heap.size #[] 0 from ⟨heap_alloc_new w _, fun e he => by simp at he⟩)
  clear hs
  unfold maxLen at hc
  go_enter Try.func42, Try.ntmps42
  have km := fun (w : World) => run_makeMap_plain (P := Try.prog) w 122
  go_wp2_with fail
  go_loopw [9] (fun i wr => ∃ k : Nat, k ≤ n ∧ i = .int .i64 k ∧ Hid (∃ es cl, SetAt wr w.heap.size es cl) ∧ Hid (Below w.heap.size w wr)) (fun i _ => (n - intOf i).toNat)
  case atStart => exact ⟨0, Nat.zero_le _, rfl, hid ⟨_, _, HM0.out⟩, hid ((Below.refl _ _).alloc (Nat.le_refl _) _)⟩
  case round =>
    obtain ⟨k, hk, rfl, HM, HB⟩ := hrel
    by_cases hlt : k < n
    · obtain ⟨g, off, rfl, hg, hfr⟩ := HS.out (by omega)
      obtain ⟨x, hx⟩ := hfr k hlt
      have z0 := (HB.out.cell (p := ⟨g, off + k, none⟩) hg).trans hx
      clear hfr hx
      go_wp2_with fail
      refine (isname_any x wr).mono ?_
      rintro e w2 ⟨⟨b, rfl⟩, rfl⟩
      cases b
      · go_wp2
        go_ret
        exact ⟨_, rfl, HB.out⟩
      obtain ⟨es, cl, hset⟩ := HM.out
      rcases run_seen hset x with hl | ⟨hl, w', hu, hset', hbw⟩
      · go_wp2
        go_ret
        exact ⟨_, rfl, HB.out⟩
      · have HM' := hid hset'
        have HB' := hid (HB.out.trans (hbw _ (Nat.le_refl _)))
        clear hset' hbw hset
        go_wp2
        go_roundw
        case rel => exact ⟨k + 1, by omega, by go_num, HM', HB'⟩
        case measure => (simp [intOf]; try omega)
    · obtain rfl : k = n := by omega
      go_wp2
      go_ret
      exact ⟨_, rfl, HB.out⟩
end Go.Proofs.Ytpoaadjhaknhdaa
