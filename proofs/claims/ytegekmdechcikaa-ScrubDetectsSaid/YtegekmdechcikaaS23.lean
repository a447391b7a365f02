/- ScrubDetects: a flip of a piece that was written. -/
import Derived.Test.YtegekmdechcikaaS22
import Derived.Test.YtegekmdechcikaaBurst2
namespace Go.Proofs.Ytegekmdechcikaa
open Go Go.RowKit Go.Sort

theorem Fine.putx {S : Dv} {n m : Nat} {t : Int} (h : Fine S n m t) (s : Int) (x : Sec) (hx : x.data.size = 36) : Fine (S.put s x) n m t :=
  ⟨h.ok.put s x hx, h.claim, by show (S.secs.set _ _).length = m; rw [List.length_set, h.real], h.on, h.pend, h.term⟩
theorem Fine.get {S : Dv} {n m : Nat} {t : Int} (h : Fine S n m t) (k : Nat) {x : Sec} (hx : S.secs[k % m]? = some x) : S.get k = x := by
  unfold Dv.get Dv.at_
  rw [h.real, show ((k : Int) % (m : Int)).toNat = k % m by omega, List.getD_eq_getElem?_getD, hx]
  rfl
theorem Fine.dead {S : Dv} {n m : Nat} {t : Int} (h : Fine S n m t) : S.dead = false := by
  have := h.on
  unfold Dv.online at this
  cases hx : S.dead
  · rfl
  · rw [hx] at this; simp at this
theorem inject_flip {S : Dv} {n m : Nat} {t : Int} (h : Fine S n m t) (k : Nat) (hk : k < n) {x : Sec} (hx : S.secs[k % m]? = some x) (b ma : Int) (hb0 : 0 ≤ b) (hb1 : b < 288) (hm0 : 1 ≤ ma) (hm1 : ma ≤ 4294967295) :
    S.inject ⟨4, k, b, ma, 0⟩ = (0, S.put k (x.flip b ma)) := by
  unfold Dv.inject
  have hv : Dv.valid S.claim ⟨4, k, b, ma, 0⟩ = true := by
    have := h.claim
    unfold Dv.valid
    rw [if_neg (by simp), if_neg (by simp), if_pos rfl, decide_eq_true_eq]
    dsimp only
    omega
  rw [if_neg (by rw [hv]; simp), if_neg (by rw [h.dead]; simp)]
  unfold Dv.happen
  rw [if_neg (by simp), if_neg (by simp), if_neg (by simp), if_pos rfl]
  dsimp only
  rw [h.get k hx]
theorem inv_lone (S : Dv) (k : Nat) : ∀ n, (∀ j : Nat, j < n → j ≠ k → held1 S (j : Int) = []) → inv S n = if k < n then held1 S (k : Int) else []
  | 0, _ => by simp [inv]
  | n + 1, h => by
    rw [inv_succ, inv_lone S k n (fun j h1 h2 => h j (by omega) h2)]
    by_cases hk : k < n
    · rw [if_pos hk, if_pos (by omega), h n (by omega) (by omega), List.append_nil]
    · rw [if_neg hk, List.nil_append]
      by_cases he : k = n
      · subst he; rw [if_pos (by omega)]
      · rw [if_neg (by omega)]
        exact h n (by omega) (fun e => he e.symm)
theorem held1_blank {S : Dv} {s : Int} (h : S.read s = (blank, 0)) : held1 S s = [] := by
  unfold held1
  rw [h, if_neg]
  rintro ⟨_, e⟩
  rw [err_blank_sec] at e
  omega
theorem held1_err {S : Dv} {s : Int} {x : ByteArray} (h : S.read s = (x, 0)) (he : errOf x.data.toList ≠ 0) : held1 S s = [] := by
  unfold held1
  rw [h, if_neg]
  rintro ⟨_, e⟩
  exact he e
theorem held1_ok {S : Dv} {s : Int} {x : ByteArray} (h : S.read s = (x, 0)) (he : errOf x.data.toList = 0) : (held1 S s).length = 1 := by
  unfold held1
  rw [h, if_pos ⟨rfl, he⟩]
  rfl
theorem flipD_found {p : Pc} (hp : p.ok = true) (b ma : Int) (hb0 : 0 ≤ b) (hb1 : b < 288) (hne : flipD (encP p) b ma ≠ encP p) : errOf (flipD (encP p) b ma).data.toList = 103 := by
  have hv2 : validB p.vol p.frag p.stripe p.gen p.ver p.data.data.toList.length = true := by rw [Array.length_toList]; exact hp
  have hl : (encP p).data.toList = encL p.vol p.frag p.stripe p.gen p.ver p.data.data.toList := by unfold encP; simp
  unfold flipD at hne ⊢
  rw [hl] at hne ⊢
  refine flip_found _ _ _ _ _ _ hv2 _ _ (by omega) (fun e => hne ?_)
  rw [e]
  rfl
/-- All that the law sees. -/
structure Flipped (p : Pc) (k : Nat) (b ma : Int) (S1 S2 S3 : Dv) : Prop where
  w1 : (newDv 10 10).write 0 k (encP p) = (0, S1)
  ok1 : S1.Ok
  p1 : S1.pend = []
  good1 : isGood (stateOf S1 ⟨k, p⟩) = true
  inj : S1.inject ⟨4, k, b, ma, 0⟩ = (0, S2)
  ok2 : S2.Ok
  on2 : S2.online = true
  same : flipD (encP p) b ma = encP p → stateOf S2 ⟨k, p⟩ = 1 ∧ (invOf S2).length = 1
  diff : flipD (encP p) b ma ≠ encP p → stateOf S2 ⟨k, p⟩ = 3 ∧ invOf S2 = []
  w3 : S2.write 0 k (encP p) = (0, S3)
  ok3 : S3.Ok
  good3 : isGood (stateOf S3 ⟨k, p⟩) = true
theorem flipped {p : Pc} (hp : p.ok = true) (k : Nat) (hk : k < 10) (b ma : Int) (hb0 : 0 ≤ b) (hb1 : b < 288) (hm0 : 1 ≤ ma) (hm1 : ma ≤ 4294967295) : ∃ S1 S2 S3, Flipped p k b ma S1 S2 S3 := by
  have hd := encP_size hp
  obtain ⟨S1, e1, f1, r1, q1, hs1⟩ := put_one 10 (by omega) (by omega) k hk hd
  have hx1 : S1.secs[k % 10]? = some ⟨encP p, false, false⟩ := by
    rw [hs1, Nat.mod_eq_of_lt hk]
    show ((newDv 10 10).secs.set k _)[k]? = _
    rw [List.getElem?_set_self (by simp [newDv]; exact hk)]
  have hi := inject_flip f1 k hk hx1 b ma hb0 hb1 hm0 hm1
  have hfl : (Sec.mk (encP p) false false).flip b ma = ⟨flipD (encP p) b ma, false, true⟩ := rfl
  rw [hfl] at hi
  have hfs : (flipD (encP p) b ma).size = 36 := (Dv.flipD_size _ _ _).trans hd
  have f2 := f1.putx k ⟨flipD (encP p) b ma, false, true⟩ hfs
  have hat : S1.at_ k = k := by
    unfold Dv.at_
    rw [f1.real]
    omega
  have r2 : (S1.put k ⟨flipD (encP p) b ma, false, true⟩).read k = (flipD (encP p) b ma, 0) := by
    refine f2.read k hk (x := ⟨flipD (encP p) b ma, false, true⟩) ?_ rfl
    rw [Nat.mod_eq_of_lt hk]
    show (S1.secs.set (S1.at_ k) _)[k]? = _
    rw [hat, List.getElem?_set_self (by rw [f1.real]; exact hk)]
  have q2 : ∀ j : Nat, j < 10 → j ≠ k → (S1.put k ⟨flipD (encP p) b ma, false, true⟩).read j = (blank, 0) := fun j hj hne => by
    refine f2.read j hj (x := blankSec) ?_ rfl
    rw [Nat.mod_eq_of_lt hj]
    show (S1.secs.set (S1.at_ k) _)[j]? = _
    rw [hat, List.getElem?_set_ne (Ne.symm hne), hs1]
    show ((newDv 10 10).secs.set k _)[j]? = _
    rw [List.getElem?_set_ne (Ne.symm hne)]
    show (List.replicate 10 blankSec)[j]? = _
    rw [List.getElem?_replicate, if_pos hj]
  obtain ⟨e3, f3⟩ := f2.write k hk (encP p) hd
  rw [Nat.mod_eq_of_lt hk] at e3 f3
  have r3 : (setAt (S1.put k ⟨flipD (encP p) b ma, false, true⟩) 0 k (encP p)).read k = (encP p, 0) := by
    refine f3.read k hk (x := ⟨encP p, false, false⟩) ?_ rfl
    rw [Nat.mod_eq_of_lt hk]
    show (List.set _ k _)[k]? = _
    rw [List.getElem?_set_self (by have := f2.real; omega)]
  have hinv : invOf (S1.put k ⟨flipD (encP p) b ma, false, true⟩) = held1 (S1.put k ⟨flipD (encP p) b ma, false, true⟩) k := by
    unfold invOf
    rw [if_pos f2.on, show (S1.put k ⟨flipD (encP p) b ma, false, true⟩).claim.toNat = 10 by have := f2.claim; omega, inv_lone _ k 10 (fun j h1 h2 => held1_blank (q2 j h1 h2)), if_pos hk]
  refine ⟨S1, _, _, e1, f1.ok, f1.pend, ?_, hi, f2.ok, f2.on, fun he => ⟨?_, ?_⟩, fun he => ⟨?_, ?_⟩, e3, f3.ok, ?_⟩
  · rw [state_read r1, seen_enc hp]
    simp [found, isGood]
  · rw [state_read r2, he, seen_enc hp]
    simp [found]
  · rw [hinv]
    exact held1_ok r2 (by rw [he]; exact (encP_dec hp).1)
  · rw [state_read r2]
    unfold seen
    rw [flipD_found hp b ma hb0 hb1 he, if_neg (by decide), if_pos (by decide)]
  · rw [hinv]
    exact held1_err r2 (by rw [flipD_found hp b ma hb0 hb1 he]; decide)
  · rw [state_read r3, seen_enc hp]
    simp [found, isGood]
end Go.Proofs.Ytegekmdechcikaa
