/- Encode, Split (both). -/
import Derived.Test.YtgeopgibjmhehaaV4
import Derived.Lib.AppendZeros
namespace Go.Proofs.Ytgeopgibjmhehaa
open Go Go.RowKit Go.Sort
attribute [local go_sem ↓] Go.wp_at_zero Go.wp_at_succ

theorem neq_self (x : Int) : (x != x) = false := by simp
set_option maxHeartbeats 1000000 in
theorem encode_any {vd : Value} {data : List (List B8)} {k m n : Nat} {w : World} (hd : RowsSl w vd data) (hdk : data.length = k) (hdn : ∀ r ∈ data, r.length = n) (hk1 : 1 ≤ k) (hk : k ≤ 4) (hm : m ≤ 4) (hn : 0 < n) (hn2 : n ≤ 1000) :
    Calls Try.prog 7 #[.int .i64 k, .int .i64 m, vd] w fun e w' => ∃ v, e = .returned (.tuple #[v, .int .i64 0]) ∧ (∃ b off c, v = .slice (some ⟨b, off, none⟩) (k + m) c ∧ k + m ≤ c) ∧ RowsSl w' v (word k m data) ∧ Below w.heap.size w w' := by
  have HD := hid hd
  have HK := hid hdk
  have HN := hid hdn
  obtain ⟨bd, od, cd, rfl, _, _⟩ := hd.at_ hdk hk1
  have hne := neq_self (k : Int)
  clear hd hdk hdn
  go_enter Try.func7, Try.ntmps7
  go_wp2_with fail
  refine (code_any k m w hk1 hk hm).mono ?_
  rintro e w' ⟨rfl, rfl⟩
  go_wp2_with fail
  refine (level_any HD.out HK.out HN.out hk1 (by omega) hn).mono ?_
  rintro e w' ⟨rfl, rfl⟩
  go_wp2_with fail
  refine (word_any HD.out HK.out HN.out hk1 hk hm hn hn2).mono ?_
  rintro e w2 ⟨v, rfl, hv, hr, hb⟩
  have HV := hid hv
  have HR := hid hr
  have HB := hid hb
  clear hv hr hb
  go_wp2
  go_ret2
  exact ⟨v, rfl, HV.out, HR.out, HB.out⟩
theorem vals_drewN {w : World} {b : Nat} {l : List Value} (h : ValsAt w b l) (n : Nat) : ValsAt (w.drewN n) b l := ⟨h.lt, h.cell, h.free⟩
/-- Cells set one by one. -/
theorem vals_setCells (b : Nat) : ∀ (cs : List Value) (o : Nat) (w : World) (l : List Value), ValsAt w b l → o + cs.length ≤ l.length → ValsAt (w.setCells b o cs) b (l.take o ++ cs ++ l.drop (o + cs.length)) ∧ Fr (fun c => c = b) w (w.setCells b o cs)
  | [], o, w, l, h, _ => ⟨by show ValsAt w b _; rw [List.append_nil, List.length_nil, Nat.add_zero, List.take_append_drop]; exact h, Fr.refl _ _⟩
  | c :: cs, o, w, l, h, hl => by
    simp only [List.length_cons] at hl
    have h1 := h.store o c (by omega)
    obtain ⟨h2, h3⟩ := vals_setCells b cs (o + 1) _ _ h1 (by simp; omega)
    refine ⟨?_, ((Fr.refl (fun c => c = b) w).setCell ⟨b, o, none⟩ c (.inl rfl)).trans (fun _ e => .inl e) h3⟩
    have e : (l.set o c).take (o + 1) = l.take o ++ [c] := by
      rw [List.take_set, List.take_succ_eq_append_getElem (by omega : o < l.length), List.set_append, if_neg (by simp; omega)]
      have : (l.take o).length = o := by simp; omega
      rw [this, Nat.sub_self]; rfl
    have e2 : (l.set o c).take (o + 1) ++ cs ++ (l.set o c).drop (o + 1 + cs.length) = l.take o ++ (c :: cs) ++ l.drop (o + (c :: cs).length) := by
      rw [e, List.drop_set_of_lt (by omega)]
      simp only [List.append_assoc, List.cons_append, List.nil_append, List.length_cons]
      rw [show o + 1 + cs.length = o + (cs.length + 1) by omega]
    rw [← e2]
    exact h2
theorem ByteSl.drop {w : World} {A : Option Addr} {l : List B8} {m c lo : Nat} (h : ByteSl w (.slice A m c) l) (hm : l.length = m) (hc : m ≤ c) (hlo : lo ≤ m) :
    ByteSl w (.slice (if c = lo then A else Option.map (fun x => x.add lo) A) (m - lo) (c - lo)) (l.drop lo) := by
  obtain ⟨_, hx, A', c', e, hcell⟩ := h
  injection e with e1 e2 e3
  subst e1; subst e3
  rw [hm] at hx hcell
  refine ⟨by simp [bcells_length], by rw [List.length_drop]; omega, _, _, by rw [List.length_drop, hm], fun h0 => ?_⟩
  rw [List.length_drop] at h0
  obtain ⟨b, off, rfl, hlt, hcc⟩ := hcell (by omega)
  rw [if_neg (by omega)]
  refine ⟨b, off + lo, by rw [Option.map_some, add_plain], hlt, fun j u hu => ?_⟩
  have := hcc (lo + j) u (by
    rw [show bcells (l.drop lo) = (bcells l).drop lo by simp [bcells, List.map_drop], List.getElem?_drop] at hu
    exact hu)
  rw [← Nat.add_assoc] at this
  exact this
/-- 'copy(b, s)' of bytes into a row of its own block. -/
theorem wpList_copy_row {w : World} {ops : Array Oper} {rest : List Oper} {op : Oper} {a : Act} {Q : Exit → Act → World → Prop} (hgd : op.guard = none) (d s : Operand)
    (ho : op.op = .call { callee := .builtin .copy, args := #[d, s], argTypes := #[22, 22] }) {b n c m t : Nat} {l x : List B8} {v : Value} (hs : a.eval s = v) (hd : a.eval d = .slice (some ⟨b, 0, none⟩) n c) (hx : ByteSl w v x) (hb : ByteBox w b l) (hl : l.length = n) (hxl : x.length = m) (ht : t = min m n)
    (hK : ∀ w', ByteBox w' b (x.take t ++ l.drop t) → Fr (fun c => c = b) w w' → wpList Try.prog ops Q rest (a.put op.dst (goInt t)) w') : wpList Try.prog ops Q (op :: rest) a w := by
  refine wpList_plain hgd fun K hK' => ?_
  obtain ⟨A, c2, rfl⟩ := hx.form
  rw [hxl] at hs
  have hmin : Nat.min m n = t := ht.symm
  have hsz : (Try.prog.info? 5).map (·.size) = some 1 := by kernel_rfl
  by_cases h0 : t = 0
  · subst h0
    have hrun := run_copy_none (P := Try.prog) w 22 22 op.type 5 (some ⟨b, 0, none⟩) A n c m c2 Try.underlying22 hsz hmin
    unfold Oper.wp
    simp [execOp, ho, resolve, invoke, builtin, hd, hs, hrun, Result.andThen]
    exact hK' _ _ (hK w (by simpa using hb) (Fr.refl _ _))
  · obtain ⟨bs, of, c3, e, _, hcell⟩ := hx.at_ hxl (by omega)
    rw [hxl] at e
    injection e with e1 _ e3
    subst e1; subst e3
    have hxt : (x.take t).length = t := by rw [List.length_take]; omega
    have hcl : (bcells (x.take t)).length = t := by rw [bcells_length, hxt]
    have hrun := run_copy_cells (P := Try.prog) w 22 22 op.type 5 b 0 n c ⟨bs, of, none⟩ m c2 (bcells (x.take t)) Try.underlying22 hsz (by rw [hcl, hmin])
      (fun j u hu => by
        have hj : j < (x.take t).length := by have := (List.getElem?_eq_some_iff.1 hu).1; rwa [bcells_length] at this
        rw [add_plain, hcell j (by omega)]
        rw [bcells_get _ j hj, List.getElem_take] at hu
        rw [List.getD_eq_getElem?_getD, List.getElem?_eq_getElem (by omega)]
        exact hu)
      (fun j hj => by rw [Nat.zero_add, ByteBox.get hb j (by omega)]; rfl) (fun j hj => by rw [Nat.zero_add]; exact ByteBox.room hb j (by omega)) (fun u hu => by
        obtain ⟨y, _, rfl⟩ := List.mem_map.1 hu
        rfl)
    rw [hcl] at hrun
    unfold Oper.wp
    simp [execOp, ho, resolve, invoke, builtin, hd, hs, hrun, Result.andThen]
    obtain ⟨h2, h3⟩ := vals_setCells b (bcells (x.take t)) 0 w _ hb (by rw [hcl, bcells_length]; omega)
    refine hK' _ _ (hK _ ?_ h3)
    have e2 : bcells (x.take t ++ l.drop t) = (bcells l).take 0 ++ bcells (x.take t) ++ (bcells l).drop (0 + (bcells (x.take t)).length) := by
      rw [hcl, Nat.zero_add, List.take_zero, List.nil_append]
      simp [bcells, List.map_drop]
    show ValsAt _ b (bcells (x.take t ++ l.drop t))
    rw [e2]
    exact h2
/-- A row that is filled up with zeros. -/
def pad (n : Nat) (x : List B8) : List B8 := x ++ List.replicate (n - x.length) 0#8
def split (k n : Nat) (l : List B8) : List (List B8) := (List.range k).map fun i => pad n ((l.drop (i * n)).take n)
theorem split_length (k n : Nat) (l : List B8) : (split k n l).length = k := by simp [split]
theorem pad_length (n : Nat) (x : List B8) (h : x.length ≤ n) : (pad n x).length = n := by simp [pad]; omega
theorem split_rows (k n : Nat) (l : List B8) : ∀ r ∈ split k n l, r.length = n := fun r hr => by
  obtain ⟨i, _, rfl⟩ := List.mem_map.1 hr
  exact pad_length _ _ (List.length_take_le _ _)
theorem split_get (k n : Nat) (l : List B8) (i : Nat) (h : i < k) : (split k n l).getD i [] = pad n ((l.drop (i * n)).take n) := by
  unfold split
  rw [List.getD_eq_getElem?_getD, List.getElem?_map, List.getElem?_range h]
  rfl
theorem split_row (l : List B8) (m j : Nat) (hm : l.length = m) : (l.drop (min m (j * 16))).take (min (m - min m (j * 16)) 16) ++ (List.replicate 16 0#8).drop (min (m - min m (j * 16)) 16) = pad 16 ((l.drop (j * 16)).take 16) := by
  unfold pad
  by_cases h : m ≤ j * 16
  · rw [show min m (j * 16) = m by omega, List.drop_of_length_le (by omega : l.length ≤ j * 16), Nat.sub_self]
    simp
  · rw [show min m (j * 16) = j * 16 by omega]
    have e1 : (l.drop (j * 16)).take (min (m - j * 16) 16) = (l.drop (j * 16)).take 16 := by
      by_cases h2 : m - j * 16 ≤ 16
      · rw [Nat.min_eq_left h2, List.take_of_length_le (by rw [List.length_drop]; omega), List.take_of_length_le (by rw [List.length_drop]; omega)]
      · rw [Nat.min_eq_right (by omega)]
    rw [e1, List.drop_replicate, List.length_take, List.length_drop, hm, Nat.min_comm]
/-- The list of rows, as far as place j. -/
def Part (w : World) (g k j n : Nat) (ls : List (List B8)) : Prop := ∃ vs : List Value, vs.length = k ∧ ValsAt w g vs ∧ ∀ i, i < j → ∃ b, vs[i]? = some (.slice (some ⟨b, 0, none⟩) n n) ∧ b ≠ g ∧ ByteBox w b (ls.getD i [])
theorem Part.rows {w : World} {g k n : Nat} {ls : List (List B8)} (h : Part w g k k n ls) (hl : ls.length = k) (hr : ∀ r ∈ ls, r.length = n) (hk : k ≤ maxLen) (hn : n ≤ maxLen) (c : Nat) : RowsSl w (.slice (some ⟨g, 0, none⟩) k c) ls := by
  obtain ⟨vs, hv, hx, hb⟩ := h
  subst hl
  refine ⟨vs, ⟨by omega, hk, some ⟨g, 0, none⟩, c, rfl, fun _ => ⟨g, 0, rfl, hx.lt, fun j u hu => ?_⟩⟩, fun i hi => ?_⟩
  · have hj := (List.getElem?_eq_some_iff.1 hu).1
    rw [Nat.zero_add, hx.cell j hj]
    rw [List.getElem?_eq_getElem hj] at hu
    exact hu
  · obtain ⟨b, e, _, hy⟩ := hb i hi
    refine ⟨_, e, ?_⟩
    rw [List.getD_eq_getElem?_getD, List.getElem?_eq_getElem hi] at hy
    have h2 := hr _ (List.getElem_mem hi)
    have := (ByteBox.sl (l := ls[i]) hy (by omega) n)
    rwa [h2] at this
set_option maxRecDepth 100000 in
set_option maxHeartbeats 2000000 in
theorem split_any {A : Option Addr} {l : List B8} {k m c : Nat} {w : World} (hd : ByteSl w (.slice A m c) l) (hm : l.length = m) (hc : m ≤ c) (hc2 : c ≤ maxLen) (hk1 : 1 ≤ k) (hk : k ≤ 4) (hmk : m ≤ k * 16) :
    Calls Try.prog 6 #[.int .i64 k, .int .i64 16, .slice A m c] w fun e w' => e = .returned (.tuple #[.slice (some ⟨w.heap.size, 0, none⟩) k k, .int .i64 0]) ∧ RowsSl w' (.slice (some ⟨w.heap.size, 0, none⟩) k k) (split k 16 l) ∧ Below w.heap.size w w' := by
  have HD := hid hd
  have HM := hid hm
  unfold maxLen at hc2
  clear hd hm
  go_enter Try.func6, Try.ntmps6
  go_wp2_with (refine wpList_mk (by rfl) (.tmp 32) (.tmp 32) 26 22 (.slice none 0 0) 24 (by rfl) Try.underlying26 Try.info_row rfl k (by omega) (by omega) (by rfl) (by rfl) ?_)
  intro w1 hv1 hlt1 hb1
  have HP := hid (show Part w1 w.heap.size k 0 16 (split k 16 l) from ⟨_, by simp, hv1, fun i hi => by omega⟩)
  have HB := hid hb1
  clear hv1 hlt1 hb1
  go_wp2_with fail
  go_loopw [36] (fun i wr => ∃ j : Nat, j ≤ k ∧ i = .int .i64 j ∧ Hid (Part wr w.heap.size k j 16 (split k 16 l)) ∧ Hid (Below w.heap.size w wr)) (fun i _ => (k - intOf i).toNat)
  case atStart => exact ⟨0, Nat.zero_le _, rfl, HP, HB⟩
  case round =>
    clear HP HB
    obtain ⟨j, hj, rfl, HP, HB⟩ := hrel
    by_cases hlt : j < k
    · obtain ⟨vs, hvs, hx, hrows⟩ := HP.out
      have HX := hid hx
      have HVS := hid hvs
      have HR := hid hrows
      clear hx hvs hrows HP
      go_upto_region 10 with (refine wpList_mk (by rfl) (.tmp 41) (.tmp 41) 22 5 (.int .u8 0) 1 (by rfl) Try.underlying22 Try.info_b8 rfl 16 (by omega) (by omega) (by rfl) (by rfl) ?_)
      intro w2 hv2 hlt2 hb2
      have hgl : w.heap.size < wr.heap.size := HX.out.lt
      have hbs := HB.out.size
      have hjv : j < vs.length := by rw [HVS.out]; exact hlt
      have HX2 := hid (HX.out.below hb2 hgl)
      have HR2 := hid (show ∀ i, i < j → ∃ b, vs[i]? = some (.slice (some ⟨b, 0, none⟩) 16 16) ∧ b ≠ w.heap.size ∧ b ≠ wr.heap.size ∧ ByteBox w2 b ((split k 16 l).getD i []) from fun i hi => by
        obtain ⟨b, e, hne, hy⟩ := HR.out i hi
        exact ⟨b, e, hne, by have := hy.lt; omega, ValsAt.below hy hb2 hy.lt⟩)
      have HZ2 := hid (show ByteBox w2 wr.heap.size (List.replicate 16 0#8) from hv2)
      have HB2 := hid (HB.out.trans (hb2.mono hbs))
      have hgne : wr.heap.size ≠ w.heap.size := by omega
      have hc0 := HX2.out.cell j hjv
      have hf0 := HX2.out.free j hjv
      generalize wr.heap.size = b at *
      generalize vs[j] = old at hc0
      have HX3 := hid (HX2.out.store j (.slice (some ⟨b, 0, none⟩) 16 16) hjv)
      have HZ3 := hid (show ByteBox (w2.setCell ⟨w.heap.size, j, none⟩ (.slice (some ⟨b, 0, none⟩) 16 16)) b (List.replicate 16 0#8) from ValsAt.other HZ2.out _ _ hgne)
      have HR3 := hid (show ∀ i, i < j → ∃ b', vs[i]? = some (.slice (some ⟨b', 0, none⟩) 16 16) ∧ b' ≠ w.heap.size ∧ b' ≠ b ∧ ByteBox (w2.setCell ⟨w.heap.size, j, none⟩ (.slice (some ⟨b, 0, none⟩) 16 16)) b' ((split k 16 l).getD i []) from fun i hi => by
        obtain ⟨b', e, hne, hne2, hy⟩ := HR2.out i hi
        exact ⟨b', e, hne, hne2, ValsAt.other hy _ _ hne⟩)
      have HB3 := hid (HB2.out.setCell (p := ⟨w.heap.size, j, none⟩) (Nat.le_refl _) (.slice (some ⟨b, 0, none⟩) 16 16))
      go_upto_region 10 with fail
      clear hv2 hlt2 hb2 hc0 hf0 HX2 HZ2 HR2 HB2 HX HR HB
      generalize w2.setCell ⟨w.heap.size, j, none⟩ (.slice (some ⟨b, 0, none⟩) 16 16) = w3 at *
      have hq : ∀ n, (w3.drewN n).cell? ⟨w.heap.size, j, none⟩ = some (.slice (some ⟨b, 0, none⟩) 16 16) := fun n => by
        have := HX3.out.cell j (by rw [List.length_set]; exact hjv)
        rw [List.getElem_set_self] at this
        exact this
      refine wp_region_quiet_tail 12 (fun w' => ∃ n, w' = w3.drewN n) ⟨1, rfl⟩ (by kernel_rfl) (by kernel_rfl) ?_
      simp only [List.take_succ_cons, List.take_zero, List.drop_succ_cons, List.drop_zero]
      repeat (go_big_quiet_step (fail))
      refine wpQuiet_nil ?_
      rintro _ ⟨nq, rfl⟩
      have hlo : (min (m : Int) ((j : Int) * 16)).toNat = min m (j * 16) := by omega
      rw [hlo]
      have hdd := (HD.out.below (HB3.out.trans ((below_drew w3 nq).mono HB3.out.size))).drop (lo := min m (j * 16)) HM.out hc (by omega)
      have HDD := hid hdd
      have HZN := hid (show ByteBox (w3.drewN nq) b (List.replicate 16 0#8) from vals_drewN HZ3.out nq)
      have HDL := hid (show (l.drop (min m (j * 16))).length = m - min m (j * 16) by rw [List.length_drop, HM.out])
      clear hlo hdd hq
      generalize (if c = min m (j * 16) then A else Option.map (fun x => x.add (min m (j * 16))) A) = sA at *
      generalize c - min m (j * 16) = sc at *
      go_wp2_with (refine wpList_copy_row (by rfl) (.tmp 47) (.tmp 55) (by rfl) (by rfl) (by rfl) HDD.out HZN.out (by simp) HDL.out (by rfl) ?_)
      intro w4 hx4 hf4
      have HR4 := hid (show ByteBox w4 b ((split k 16 l).getD j []) by rw [split_get k 16 l j hlt, ← split_row l m j HM.out]; exact hx4)
      have HX4 := hid (show ValsAt w4 w.heap.size (vs.set j (.slice (some ⟨b, 0, none⟩) 16 16)) from ValsAt.fr (vals_drewN HX3.out nq) hf4 (fun e => hgne (Eq.symm e)))
      have HO4 := hid (show ∀ i, i < j → ∃ b', vs[i]? = some (.slice (some ⟨b', 0, none⟩) 16 16) ∧ b' ≠ w.heap.size ∧ ByteBox w4 b' ((split k 16 l).getD i []) from fun i hi => by
        obtain ⟨b', e, hne, hne2, hy⟩ := HR3.out i hi
        exact ⟨b', e, hne, ValsAt.fr (vals_drewN hy nq) hf4 hne2⟩)
      have hb4 := below_of_fr (below_drewN HB3.out nq) hf4 (B := w.heap.size) (fun x e => by have : x = b := e; omega) HB3.out.size
      have HB4 := hid hb4
      clear hx4 hf4 hb4 HDD HZN HDL HX3 HZ3 HR3 HB3
      have HP4 := hid (show Part w4 w.heap.size k (j + 1) 16 (split k 16 l) from ⟨_, by rw [List.length_set]; exact HVS.out, HX4.out, fun i hi => by
        by_cases e : i = j
        · subst e
          exact ⟨b, by rw [List.getElem?_set_self hjv], hgne, HR4.out⟩
        · obtain ⟨b', e', hne, hy⟩ := HO4.out i (by omega)
          exact ⟨b', by rw [List.getElem?_set_ne (Ne.symm e)]; exact e', hne, hy⟩⟩)
      go_wp2
      go_roundw
      case rel => exact ⟨j + 1, by omega, by go_num, HP4, HB4⟩
      case measure => (simp [intOf]; try omega)
    · obtain rfl : j = k := by omega
      have hr := HP.out.rows (split_length _ _ _) (split_rows _ _ _) (by unfold maxLen; omega) (by unfold maxLen; omega) j
      have HR := hid hr
      clear hr
      go_wp2
      go_ret2
      exact ⟨rfl, HR.out, HB.out⟩
end Go.Proofs.Ytgeopgibjmhehaa
