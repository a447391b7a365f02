/- Platters of the drive; SameTexts. -/
import Derived.Test.YtegekmdechcikaaEInj2
namespace Go.Proofs.Ytegekmdechcikaa
open Go Go.RowKit Go.Sort

def strs (l : List ByteArray) : List Value := l.map Value.string
/-- What a sector shows. -/
def Sec.shown (s : Sec) : ByteArray := if s.un = true then ⟨#[]⟩ else s.data
/-- After k rounds. -/
def platAt (l : List Sec) (k : Nat) : List Value := strs ((l.take k).map Sec.shown) ++ List.replicate (l.length - k) (.string ⟨#[]⟩)
theorem platAt_length (l : List Sec) (k : Nat) (h : k ≤ l.length) : (platAt l k).length = l.length := by simp [platAt, strs]; omega
theorem platAt_done (l : List Sec) : platAt l l.length = strs (l.map Sec.shown) := by simp [platAt]
theorem platAt_set (l : List Sec) (k : Nat) (h : k < l.length) : (platAt l k).set k (.string l[k].shown) = platAt l (k + 1) := by
  unfold platAt
  have hl : (strs ((l.take k).map Sec.shown)).length = k := by simp [strs]; omega
  rw [List.set_append, if_neg (by omega), hl, Nat.sub_self, List.take_succ_eq_append_getElem h]
  obtain ⟨m, hm⟩ : ∃ m, l.length - k = m + 1 := ⟨l.length - k - 1, by omega⟩
  rw [hm, show l.length - (k + 1) = m by omega, List.replicate_succ, List.set_cons_zero]
  unfold strs
  rw [List.map_append, List.map_append, List.append_assoc]
  rfl
theorem platAt_skip (l : List Sec) (k : Nat) (h : k < l.length) (hu : l[k].un = true) : platAt l k = platAt l (k + 1) := by
  have hl := platAt_length l k (by omega)
  rw [← platAt_set l k h, show l[k].shown = ⟨#[]⟩ by unfold Sec.shown; rw [if_pos hu]]
  have : (platAt l k)[k]'(by omega) = .string ⟨#[]⟩ := by
    unfold platAt
    rw [List.getElem_append_right (by simp [strs]; omega)]
    simp
  rw [← this, List.set_getElem_self]
theorem Try.info_str : (Try.prog.info? 9).map (fun i => (i.zero, i.size, i.bytes)) = some (some (.string ⟨#[]⟩), 1, 16) := by kernel_rfl
theorem madeCells_str (n : Nat) : madeCells #[Value.string ⟨#[]⟩] (n * 1) = (List.replicate n (Value.string ⟨#[]⟩)).toArray := by
  apply Array.ext'
  rw [Nat.mul_one, toList_madeCells_one]
/-- A slice of strings in memory. -/
def Texts (w : World) (o : Own) (v : Value) (l : List ByteArray) : Prop := OwnSl w o 1 v l.length (strs l)
theorem ValsAt.own {w : World} {g : Nat} {l : List Value} (h : ValsAt w g l) {o : Own} (ho : o g) (hm : l.length ≤ maxLen) : OwnSl w o 1 (.slice (some ⟨g, 0, none⟩) l.length l.length) l.length l := by
  refine ⟨by simp, .inr ⟨g, 0, l.length, rfl, ho, h.lt, Nat.le_refl _, hm, fun j u hu => ?_, fun j hj => ?_⟩⟩
  · obtain ⟨hj, rfl⟩ := List.getElem?_eq_some_iff.1 hu
    rw [Nat.zero_add]; exact h.cell j hj
  · rw [Nat.mul_one] at hj
    rw [Nat.zero_add, h.cell j hj]
    exact ⟨rfl, h.free j hj⟩
section
variable {w : World} {o p : Own} {a b c : Nat} {pv : Value} {S : Dv}
set_option maxRecDepth 100000 in
set_option maxHeartbeats 2000000 in
theorem platters_any (h : DrvB w o p a b c pv S) (hS : S.Ok) :
    Calls Try.prog 27 #[.pointer (some ⟨a, 0, none⟩)] w fun e w' => ∃ v, e = .returned v ∧ Texts w' (Grow NoOwn w w') v S.platters ∧ Below w.heap.size w w' := by
  have HH := hid h
  have HS := hid hS
  have hl : S.secs.length ≤ 128 := by have := hS.le; have := hS.top; omega
  clear h hS
  cases hd : S.dead
  case true =>
    have hp : S.platters = [] := by unfold Dv.platters; rw [if_pos hd]
    rw [hp]
    have HD := hid hd
    clear hd hp
    go_enter Try.func27, Try.ntmps27
    go_wp2_with (go_at_call 47; refine (gone_any HH.out HS.out).mono ?_; rintro e w' ⟨rfl, rfl⟩; rw [HD.out])
    go_ret
    exact ⟨_, rfl, OwnSl.nil _ _ _, Below.refl _ _⟩
  case false =>
    have hp : S.platters = S.secs.map Sec.shown := by unfold Dv.platters; rw [if_neg (by simp [hd])]; rfl
    rw [hp]
    have HD := hid hd
    clear hd hp
    obtain ⟨c0, c1, c2, c3, c4, c5⟩ := HH.out.cells
    obtain ⟨i0, hi, hz0, hz1, hz2⟩ := info_parts Try.info_str
    have hrun := run_make (P := Try.prog) w 62 9 i0 _ Try.underlying62 hi hz0 .i64 .i64 S.secs.length S.secs.length (by omega) (Int.le_refl _) (by rw [hz2]; omega) (by omega)
    rw [Int.toNat_natCast, hz1, show (Value.string ⟨#[]⟩).cells = #[.string ⟨#[]⟩] from rfl, madeCells_str] at hrun
    clear hi hz0 hz1 hz2
    have hv := vals_new w (List.replicate S.secs.length (.string ⟨#[]⟩)) 9
    have hb0 : Below w.heap.size w (w.alloc (.cells (List.replicate S.secs.length (Value.string ⟨#[]⟩)).toArray 9)) := (Below.refl _ _).alloc (Nat.le_refl _) _
    have h1 := HH.out.below hb0
    have hs0 : w.heap.size < (w.alloc (.cells (List.replicate S.secs.length (Value.string ⟨#[]⟩)).toArray 9)).heap.size := by simp
    generalize w.alloc (.cells (List.replicate S.secs.length (Value.string ⟨#[]⟩)).toArray 9) = w1 at *
    obtain ⟨d0, d1, d2, d3, d4, d5⟩ := h1.cells
    have H1 := hid h1
    have hv0 : ValsAt w1 w.heap.size (platAt S.secs 0) := by simpa [platAt, strs] using hv
    have HV0 := hid hv0
    clear h1 hv hv0 c0 c2 c3 c4 c5 d0 d2 d3 d4 d5
    have hS1 := HS.out.one
    go_enter Try.func27, Try.ntmps27
    go_wp2_with (go_at_call 47; refine (gone_any HH.out HS.out).mono ?_; rintro e w' ⟨rfl, rfl⟩; rw [HD.out])
    clear hrun
    go_loopw [19] (fun i wr => ∃ k : Nat, k ≤ S.secs.length ∧ i = .int .i64 k ∧ ValsAt wr w.heap.size (platAt S.secs k) ∧ Below w.heap.size w wr) (fun i _ => (S.secs.length - intOf i).toNat)
    case atStart => exact ⟨0, Nat.zero_le _, rfl, HV0.out, hb0⟩
    case round =>
      obtain ⟨k, hk, rfl, hr, hg⟩ := hrel
      clear HV0
      by_cases hlt : k < S.secs.length
      · have hs1 := HH.out.secs.below hg HH.out.secs.lt
        obtain ⟨e0, e1, e2⟩ := hs1.cells k hlt
        obtain ⟨sd, su, sm, hsec⟩ : ∃ sd su sm, S.secs[k] = ⟨sd, su, sm⟩ := ⟨_, _, _, rfl⟩
        rw [hsec] at e0 e1 e2
        have HSEC := hid hsec
        have hpl := platAt_length S.secs k hk
        have hwr := hg.size
        have hslt := HH.out.secs.lt
        clear hs1 hsec
        have HR := hid hr
        have HG := hid hg
        have HPL := hid hpl
        clear hr hg hpl
        go_upto_region 7 with fail
        have hb2 : Below wr.heap.size wr (wr.alloc (.cells #[.string sd, .bool su, .bool sm] 97)) := (Below.refl _ _).alloc (Nat.le_refl _) _
        have hq := heap_alloc_new wr (.cells #[Value.string sd, .bool su, .bool sm] 97)
        have q0 := cell_block hq 0
        have q1 := cell_block hq 1
        simp only [List.getElem?_toArray, List.getElem?_cons_zero, List.getElem?_cons_succ] at q0 q1
        have hr2 := HR.out.below hb2 HR.out.lt
        have hg2 := HG.out.trans (hb2.mono HG.out.size)
        clear hq hb2 HR HG e0 e1 e2
        generalize wr.alloc (.cells #[Value.string sd, .bool su, .bool sm] 97) = wr2 at *
        generalize wr.heap.size = q at *
        cases su
        case true =>
          have hsk := platAt_skip S.secs k hlt (by rw [HSEC.out])
          rw [hsk] at hr2
          clear hsk
          go_wp2
          go_roundw
          case rel => exact ⟨k + 1, by omega, by go_num, hr2, hg2⟩
          case measure => (simp [intOf]; try omega)
        case false =>
          have hst := hr2.store k (.string S.secs[k].shown) (by rw [HPL.out]; exact hlt)
          rw [platAt_set S.secs k hlt, HSEC.out, show Sec.shown ⟨sd, false, sm⟩ = sd from rfl] at hst
          have hc := hr2.cell k (by rw [HPL.out]; exact hlt)
          have hf := hr2.free k (by rw [HPL.out]; exact hlt)
          have HST := hid hst
          clear hst
          generalize (platAt S.secs k)[k]'(by rw [HPL.out]; exact hlt) = old at hc
          go_wp2
          go_roundw
          case rel => exact ⟨k + 1, by omega, by go_num, HST.out, hg2.setCell (Nat.le_refl _) _⟩
          case measure => (simp [intOf]; try omega)
      · obtain rfl : k = S.secs.length := by omega
        rw [platAt_done] at hr
        go_wp2
        go_ret
        refine ⟨_, rfl, ?_, hg⟩
        have := hr.own (o := Grow NoOwn w wr) (.inr ⟨Nat.le_refl _, hr.lt⟩) (by simp [strs]; unfold maxLen; omega)
        unfold Texts
        simpa [strs] using this
end
section
variable {w : World} {o : Own} {a : Nat} {S : Dv}
theorem read_e (h : Drv w o a S) (hS : S.Ok) (s : Int) : Calls Try.prog 49 #[.pointer (some ⟨a, 0, none⟩), .int .i64 s] w fun e w' => e = .returned (.tuple #[.string (S.read s).1, .int .i64 (S.read s).2]) ∧ ∃ n, w' = w.drewN n := by
  obtain ⟨p, b, c, pv, h⟩ := h
  exact read_any h hS s
theorem claim_e (h : Drv w o a S) : Calls Try.prog 25 #[.pointer (some ⟨a, 0, none⟩)] w fun e w' => e = .returned (.int .i64 S.claim) ∧ w = w' := by
  obtain ⟨p, b, c, pv, h⟩ := h
  exact claim_any h
theorem status_e (h : Drv w o a S) (hS : S.Ok) : Calls Try.prog 29 #[.pointer (some ⟨a, 0, none⟩)] w fun e w' => e = .returned (.agg #[.bool S.online, .bool S.dead, .int .i64 S.term]) ∧ Below w.heap.size w w' := by
  obtain ⟨p, b, c, pv, h⟩ := h
  exact status_any h hS
theorem fence_e (h : Drv w o a S) (hS : S.Ok) (t : Int) : Calls Try.prog 61 #[.pointer (some ⟨a, 0, none⟩), .int .i64 t] w fun e w' => e = .returned (.int .i64 (S.fence t).1) ∧ Drv w' o a (S.fence t).2 ∧ Fr o w w' := by
  obtain ⟨p, b, c, pv, h⟩ := h
  exact (fence_any h hS t).mono fun _ _ ⟨h1, h2, h3⟩ => ⟨h1, ⟨_, _, _, _, h2⟩, h3⟩
theorem platters_e (h : Drv w o a S) (hS : S.Ok) : Calls Try.prog 27 #[.pointer (some ⟨a, 0, none⟩)] w fun e w' => ∃ v, e = .returned v ∧ Texts w' (Grow NoOwn w w') v S.platters ∧ Below w.heap.size w w' := by
  obtain ⟨p, b, c, pv, h⟩ := h
  exact platters_any h hS
end
end Go.Proofs.Ytegekmdechcikaa
