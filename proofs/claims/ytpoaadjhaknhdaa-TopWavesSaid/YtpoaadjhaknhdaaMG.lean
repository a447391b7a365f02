/- The maker: what the finished fleet is. -/
import Derived.Test.YtpoaadjhaknhdaaW28
import Derived.Test.YtpoaadjhaknhdaaMF
import Derived.Laws.Tables
import Derived.Great.Walk
namespace Go.Proofs.Ytpoaadjhaknhdaa
open Go Go.RowKit Go.Sort Go.Deep

theorem exists_list {α : Type} {P : Nat → α → Prop} : ∀ (n : Nat), (∀ j, j < n → ∃ x, P j x) → ∃ l : List α, l.length = n ∧ ∀ j (hj : j < l.length), P j l[j]
  | 0, _ => ⟨[], rfl, fun j hj => by cases hj⟩
  | n + 1, h => by
    obtain ⟨l, hl, hp⟩ := exists_list n (fun j hj => h j (by omega))
    obtain ⟨x, hx⟩ := h n (by omega)
    refine ⟨l ++ [x], by simp [hl], fun j hj => ?_⟩
    rcases Nat.lt_or_ge j l.length with e | e
    · rw [List.getElem_append_left e]
      exact hp j e
    · have e2 : j = l.length := by rw [List.length_append] at hj; simp at hj; omega
      subst e2
      rw [List.getElem_append_right (Nat.le_refl _)]
      simp only [Nat.sub_self, List.getElem_cons_zero]
      rw [hl]; exact hx
theorem dom_cells {w : World} {g off : Nat} {nm : ByteArray} {lv pa up : Int} {u v : Value} {a b : Nat} (hg : g < w.heap.size) (h : CellsIn w g off (domRow nm lv pa up u v)) (ho : One w u a ∧ One w v b) (hb : 0 < b) : DomAt w g off nm lv pa up :=
  ⟨h 0 _ rfl, h 1 _ rfl, h 2 _ rfl, h 3 _ rfl, ⟨hg, u, v, a, b, h 4 _ rfl, h 5 _ rfl, h 6 _ rfl, ho.1, ho.2, hb⟩⟩
section
variable {S : World → Prop} {B gt gr gf I : Nat} {w0 w : World} {ex : Int} {vl vm : Value} {v : Nat → Value} {n : Nat → Nat} {M : Own} {o : Nat → Own}
theorem Mk.done (h : Mk (fun w' => RowsIn w' vl 1 4 LawCell ∧ RowsIn w' vm 2 4 ModCell) B gt gr gf w0 w I ex vl vm v n M o) (hB : n 2 = B) (h0 : 2 ≤ n 0 ∧ n 0 ≤ 100) (h1 : n 1 ≤ 100) (h2 : 1 ≤ n 2 ∧ n 2 ≤ 100) (h3 : 1 ≤ n 3 ∧ n 3 ≤ 100) :
    ∃ KM : List (Nat × Nat), KM.length = n 3 ∧ Sup (Or (Just gt) (Just gr)) w fun W => FleetK W vl vm (v 0) (v 1) (v 2) (v 3) 1 (n 0) (n 1) (n 2) KM.length KM := by
  obtain ⟨L0, e0, R0, Q0⟩ := h.comp 0 (by omega)
  obtain ⟨L1, e1, R1, Q1⟩ := h.comp 1 (by omega)
  obtain ⟨L2, e2, R2, Q2⟩ := h.comp 2 (by omega)
  obtain ⟨L3, e3, R3, Q3⟩ := h.comp 3 (by omega)
  have key : ∀ j, j < L3.length → ∃ x : Nat × Nat, ∃ p : Nat, p < L2.length ∧ (∃ nm, L3[j]? = some [.string nm, .int .i64 (p : Int)]) ∧ (1 ≤ x.1 ∧ x.1 ≤ 2 ∧ x.2 ≤ 2) ∧ ∃ r, L2[p]? = some r ∧ r[1]? = some (.int .i64 (x.1 : Int)) ∧ r[2]? = some (.int .i64 (x.2 : Int)) := by
    intro j hj
    obtain ⟨nm, p, hr, hp⟩ := Q3 j hj
    have hp2 : p < L2.length := by omega
    obtain ⟨nm2, K, Mm, Q, s0, s1, s2, s3, s4, um, ur, u1, v1, u2, v2, hr2, hk1, hk2, hm, _⟩ := Q2 p hp2
    exact ⟨(K, Mm), p, hp2, ⟨nm, by rw [List.getElem?_eq_getElem hj, hr]⟩, ⟨hk1, hk2, hm⟩, _, List.getElem?_eq_getElem hp2, by rw [hr2]; rfl, by rw [hr2]; rfl⟩
  obtain ⟨KM, hKM, hP⟩ := exists_list _ key
  refine ⟨KM, hKM.trans e3, fun W hW => ?_⟩
  have ho := h.order
  have hsub : ∀ k, Or (Just gt) (Just gr) k → M k := fun k e => by
    rcases e with e | e
    · rw [show k = gt from e]; exact h.mem.1
    · rw [show k = gr from e]; exact h.mem.2.1
  have hmv : Mv M w M W := ⟨hW.mono hsub, fun _ e => .inl e⟩
  have hap : ∀ i, i < 4 → Apart (o i) (Or (Just gt) (Just gr)) := fun i hi k a b => by
    have := (h.sub i hi k a).2
    rcases b with b | b
    · have : k = gt := b
      omega
    · have : k = gr := b
      omega
  have hS := h.froz W (hW.mono hsub)
  obtain ⟨A0, c0, f0, g0, m0, x0⟩ := (R0.fr hW (hap 0 (by omega))).at_
  obtain ⟨A1, c1, f1, g1, m1, x1⟩ := (R1.fr hW (hap 1 (by omega))).at_
  obtain ⟨A2, c2, f2, g2, m2, x2⟩ := (R2.fr hW (hap 2 (by omega))).at_
  obtain ⟨A3, c3, f3, g3, m3, x3⟩ := (R3.fr hW (hap 3 (by omega))).at_
  obtain ⟨gd, od, rfl, _, hgd, hd⟩ := x0 (by omega)
  obtain ⟨gp, op, rfl, _, hgp, hp⟩ := x2 (by omega)
  obtain ⟨gv, ov, rfl, _, hgv, hv⟩ := x3 (by omega)
  have hdom : ∀ j (hj : j < L0.length), ∃ nm lv pa up, DomAt W gd (od + j * 7) nm lv pa up ∧ (-1000 ≤ lv ∧ lv ≤ 1000) ∧ (j = 0 → nm = ⟨#[]⟩ ∧ lv = 0 ∧ pa = -1 ∧ up = 0) := fun j hj => by
    obtain ⟨nm, lv, pa, up, u, v', a, b, hr, hs, hb, hl1, hl2, hz⟩ := (Q0 j hj).mv hmv
    have hc := hd j hj
    rw [hr] at hc
    exact ⟨nm, lv, pa, up, dom_cells hgd hc hs.now hb, ⟨hl1, hl2⟩, hz⟩
  rw [e0] at f0 g0
  rw [e1] at f1 g1
  rw [e2] at f2 g2
  rw [e3] at f3 g3
  have hK3 : KM.length = n 3 := hKM.trans e3
  refine ⟨⟨hS.1, hS.2, ⟨gd, od, c0, f0, g0, m0, ⟨?_, fun j hj => ?_⟩⟩, ⟨A1, c1, f1, g1, m1, fun hn => ?_⟩, ⟨_, c2, f2, g2, m2, fun hn => ?_⟩, ⟨_, c3, by rw [hK3]; exact f3, by omega, m3, fun hn => ?_⟩, ⟨by omega, h0.1, h0.2, h1, h2.2, by omega⟩⟩, ⟨fun x hx => ?_, by omega, ⟨gp, op, c2, n 2, gv, ov, c3, f2, by rw [hK3]; exact f3, hgp, hgv, by omega, fun j hj => ?_⟩⟩⟩
  · obtain ⟨nm, lv, pa, up, hda, _, hz⟩ := hdom 0 (by omega)
    obtain ⟨rfl, rfl, rfl, rfl⟩ := hz rfl
    simpa using hda
  · obtain ⟨nm, lv, pa, up, hda, hl, _⟩ := hdom j (by omega)
    exact ⟨nm, lv, pa, up, hda, hl⟩
  · obtain ⟨g, off, e, _, hg, hc⟩ := x1 (by omega)
    refine ⟨g, off, e, hg, fun j hj => ?_⟩
    obtain ⟨nm, x, y, hr⟩ := Q1 j (by omega)
    have hcj := hc j (by omega)
    rw [hr] at hcj
    exact ⟨nm, x, y, hcj⟩
  · refine ⟨gp, op, rfl, hgp, fun j hj => ?_⟩
    obtain ⟨nm2, K, Mm, Q, s0, s1, s2, s3, s4, um, ur, u1, v1, u2, v2, hr2, hk1, hk2, hm, hs⟩ := (Q2 j (by omega)).mv hmv
    have hcj := hp j (by omega)
    rw [hr2] at hcj
    exact ⟨_, _, _, _, _, _, _, _, _, _, _, _, _, _, _, hcj, hs.now⟩
  · refine ⟨gv, ov, rfl, hgv, fun j hj => ?_⟩
    obtain ⟨nm, p, hr, _⟩ := Q3 j (by omega)
    have hcj := hv j (by omega)
    rw [hr] at hcj
    exact ⟨_, _, hcj⟩
  · obtain ⟨j, hj, rfl⟩ := List.getElem_of_mem hx
    obtain ⟨p, _, _, hs, _⟩ := hP j hj
    exact hs
  · obtain ⟨p, hp2, ⟨nm, hr⟩, hs, r, hr2, ha, hb⟩ := hP j hj
    have hj3 : j < L3.length := by omega
    have hc3 := hv j hj3
    have hc2 := hp p hp2
    rw [List.getElem?_eq_getElem hj3] at hr
    injection hr with hr
    rw [List.getElem?_eq_getElem hp2] at hr2
    injection hr2 with hr2
    rw [hr] at hc3
    rw [hr2] at hc2
    exact ⟨p, by omega, hc3 1 _ rfl, hc2 1 _ ha, hc2 2 _ hb⟩
end
end Go.Proofs.Ytpoaadjhaknhdaa

/- Laws for the policy's row: built, laid, stored. -/
namespace Go.Proofs.Ytpoaadjhaknhdaa
open Go Go.RowKit Go.Sort Go.Deep

abbrev nilV : Value := .slice none 0 0
theorem Try.info_pol : (Try.prog.info? 50).map (fun i => (i.zero, i.size, i.bytes)) = some (some (.agg (polAgg ⟨#[]⟩ 0 0 0 0 0 0 0 0 (.slice none 0 0) (.slice none 0 0) (.slice none 0 0) (.slice none 0 0) (.slice none 0 0) (.slice none 0 0))), 17, 240) := by kernel_rfl
theorem built_pol (s : ByteArray) (K Mm Q : Int) (A0 : Option Addr) (n0 c0 : Nat) (Ua : Option Addr) (ma ca : Nat) (Xa : Option Addr) (ka da : Nat) (Ub : Option Addr) (mb cb : Nat) (Xb : Option Addr) (kb db : Nat) : Try.prog.built 50 [(0, .string s), (1, .int .i64 K), (2, .int .i64 Mm), (3, .int .i64 Q), (5, .slice A0 n0 c0), (7, .agg #[.bool false, .slice Ua ma ca, .slice Xa ka da]), (8, .agg #[.bool false, .slice Ub mb cb, .slice Xb kb db])] = some (polAgg s K Mm Q 0 0 0 0 0 (.slice A0 n0 c0) nilV (.slice Ua ma ca) (.slice Xa ka da) (.slice Ub mb cb) (.slice Xb kb db)) := by kernel_rfl
theorem wpList_built {P : Program} {ops : Array Oper} {rest : List Oper} {o : Oper} {a : Act} {w : World} {Q : Exit → Act → World → Prop} (hg : o.guard = none) (t : TypeId) (parts : Array (Nat × Operand)) (ho : o.op = .build t parts)
    (ps : List (Nat × Value)) (hps : (parts.map fun (i, x) => (i, a.eval x)).toList = ps) (cells : Array Value) (hc : P.built t ps = some cells) (h : wpList P ops Q rest (a.put o.dst (.agg cells)) w) : wpList P ops Q (o :: rest) a w :=
  wpList_build hg t parts ho (by rw [hps, hc]; rfl) (by rw [hps, hc]; exact h)
theorem wpList_allocRow {P : Program} {ops : Array Oper} {rest : List Oper} {o : Oper} {a : Act} {w : World} {Q : Exit → Act → World → Prop} (hg : o.guard = none) (t : TypeId) (ho : o.op = .alloc t) (i : TypeInfo) (z : Value) (cells : Array Value) (hi : P.info? t = some i) (hz : i.zero = some z) (hc : z.cells = cells)
    (h : wpList P ops Q rest (a.put o.dst (.pointer (some ⟨w.heap.size, 0, none⟩))) (w.alloc (.cells cells t))) : wpList P ops Q (o :: rest) a w := by
  refine wpList_plain hg fun K hK => ?_
  unfold Oper.wp execOp
  simp [ho, Instr.alloc, zeroValue, newVar, newRow, newObj, typeInfo, hi, hz, hc]
  exact hK _ _ h
theorem wpList_sliced {P : Program} {ops : Array Oper} {rest : List Oper} {o : Oper} {a : Act} {w : World} {Q : Exit → Act → World → Prop} (hg : o.guard = none) (t e : TypeId) (len : Nat) (parts : Array (Nat × Operand)) (ho : o.op = .buildSlice t len parts)
    (ps : List (Nat × Value)) (hps : (parts.map fun (i, x) => (i, a.eval x)).toList = ps) (hu : P.underlying t = some (.slice e)) (cells : Array Value) (hf : P.builtSlice e len ps = some cells)
    (h : wpList P ops Q rest (a.put o.dst (.slice (some ⟨w.heap.size, 0, none⟩) len len)) (w.alloc (.cells cells e))) : wpList P ops Q (o :: rest) a w :=
  Go.Great.wpList_buildSliceTo hg t e len parts ho _ rfl _ rfl hu cells (by rw [hps]; exact hf) h
theorem sliced_pol (nm : ByteArray) (K M Q s0 s1 s2 s3 s4 : Int) (vm vr u1 v1 u2 v2 : Value) : Try.prog.builtSlice 50 1 [(0, .agg (polAgg nm K M Q s0 s1 s2 s3 s4 vm vr u1 v1 u2 v2))] = some (polAgg nm K M Q s0 s1 s2 s3 s4 vm vr u1 v1 u2 v2) := by kernel_rfl
theorem pol_one {nm : ByteArray} {K M Q s0 s1 s2 s3 s4 : Int} {vm vr u1 v1 u2 v2 : Value} (h : ∀ u ∈ [vm, vr, u1, v1, u2, v2], ∃ A n c, u = .slice A n c) : ∀ u ∈ (polAgg nm K M Q s0 s1 s2 s3 s4 vm vr u1 v1 u2 v2).toList, u.oneCell' = true := by
  intro u hu
  have hs : ∀ x ∈ [vm, vr, u1, v1, u2, v2], x.oneCell' = true := fun x hx => by
    obtain ⟨A, n, c, rfl⟩ := h x hx
    rfl
  simp only [polAgg, List.mem_cons, List.not_mem_nil, or_false] at hu hs
  rcases hu with rfl | rfl | rfl | rfl | rfl | rfl | rfl | rfl | rfl | rfl | rfl | rfl | rfl | rfl | rfl | rfl | rfl
  all_goals first | rfl | (apply hs; simp)
theorem Fr.setRow {o : Own} {w w1 : World} (h : Fr o w w1) (g : Nat) (cs : Array Value) (hg : o g) : Fr o w (w1.setRow g cs) :=
  h.trans (o1 := o) (fun _ e => .inl e) ⟨rfl, rfl, rfl, by simp [World.setRow], fun k _ hn => setRow_other w1 g k cs (fun e => hn (by rw [e]; exact hg))⟩
theorem fleet_size : (Try.prog.info? 33).map (·.size) = some 7 := by kernel_rfl
theorem fleet_one {ex : Int} {v0 v1 v2 v3 v4 v5 : Value} (h : ∀ u ∈ [v0, v1, v2, v3, v4, v5], ∃ A n c, u = .slice A n c) : (fleetArr ex v0 v1 v2 v3 v4 v5).all (·.oneCell') = true := by
  have hs : ∀ x ∈ [v0, v1, v2, v3, v4, v5], x.oneCell' = true := fun x hx => by
    obtain ⟨A, n, c, rfl⟩ := h x hx
    rfl
  simp only [fleetArr, List.mem_cons, List.not_mem_nil, or_false, forall_eq_or_imp, forall_eq] at hs
  have h0 : (Value.int .i64 ex).oneCell' = true := rfl
  simp [fleetArr, hs, h0]
end Go.Proofs.Ytpoaadjhaknhdaa
