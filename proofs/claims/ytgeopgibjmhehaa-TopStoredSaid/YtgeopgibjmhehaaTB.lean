/- The field of 256 elements: plain mathematics. -/
import Derived.WalkKit
namespace Go.Proofs.Ytgeopgibjmhehaa
open Go

abbrev B8 := BitVec 8
/-- Times 2. -/
def xt (a : B8) : B8 := (a <<< 1) ^^^ (if a.msb then 0x1d#8 else 0#8)
def gm : Nat → B8 → B8 → B8
  | 0, _, _ => 0#8
  | n + 1, a, b => (if b.getLsbD 0 then a else 0#8) ^^^ gm n (xt a) (b >>> 1)
def gmul (a b : B8) : B8 := gm 8 a b

theorem xt_xor (a b : B8) : xt (a ^^^ b) = xt a ^^^ xt b := by
  unfold xt
  rw [BitVec.shiftLeft_xor_distrib, BitVec.msb_xor]
  cases a.msb <;> cases b.msb <;> simp
  · ac_rfl
  · ac_rfl
  · rw [show a <<< 1 ^^^ 29#8 ^^^ (b <<< 1 ^^^ 29#8) = (29#8 ^^^ 29#8) ^^^ (a <<< 1 ^^^ b <<< 1) by ac_rfl]
    simp
theorem gm_left (n : Nat) : ∀ a a' b : B8, gm n (a ^^^ a') b = gm n a b ^^^ gm n a' b := by
  induction n with
  | zero => intros; simp [gm]
  | succ n ih =>
    intro a a' b
    simp only [gm, xt_xor, ih]
    cases b.getLsbD 0 <;> simp
    ac_rfl
theorem gm_right (n : Nat) : ∀ a b b' : B8, gm n a (b ^^^ b') = gm n a b ^^^ gm n a b' := by
  induction n with
  | zero => intros; simp [gm]
  | succ n ih =>
    intro a b b'
    simp only [gm, BitVec.ushiftRight_xor_distrib, BitVec.getLsbD_xor, ih]
    cases b.getLsbD 0 <;> cases b'.getLsbD 0 <;> simp
    · ac_rfl
    · ac_rfl
    · rw [show a ^^^ gm n (xt a) (b >>> 1) ^^^ (a ^^^ gm n (xt a) (b' >>> 1)) = (a ^^^ a) ^^^ (gm n (xt a) (b >>> 1) ^^^ gm n (xt a) (b' >>> 1)) by ac_rfl]
      simp
def Lin (f : B8 → B8) : Prop := ∀ a b, f (a ^^^ b) = f a ^^^ f b
theorem bits8 : ∀ x : B8, x = (x &&& 1#8) ^^^ (x &&& 2#8) ^^^ (x &&& 4#8) ^^^ (x &&& 8#8) ^^^ (x &&& 16#8) ^^^ (x &&& 32#8) ^^^ (x &&& 64#8) ^^^ (x &&& 128#8) := by decide +kernel
theorem bit8 : ∀ x : B8, (x &&& 1#8 = 0#8 ∨ x &&& 1#8 = 1#8) ∧ (x &&& 2#8 = 0#8 ∨ x &&& 2#8 = 2#8) ∧ (x &&& 4#8 = 0#8 ∨ x &&& 4#8 = 4#8) ∧ (x &&& 8#8 = 0#8 ∨ x &&& 8#8 = 8#8) ∧ (x &&& 16#8 = 0#8 ∨ x &&& 16#8 = 16#8) ∧ (x &&& 32#8 = 0#8 ∨ x &&& 32#8 = 32#8) ∧ (x &&& 64#8 = 0#8 ∨ x &&& 64#8 = 64#8) ∧ (x &&& 128#8 = 0#8 ∨ x &&& 128#8 = 128#8) := by decide +kernel
def basis : List B8 := [1#8, 2#8, 4#8, 8#8, 16#8, 32#8, 64#8, 128#8]
theorem Lin.zero {f : B8 → B8} (h : Lin f) : f 0#8 = 0#8 := by
  have := h 0#8 0#8
  rw [BitVec.xor_self] at this
  rw [this, BitVec.xor_self]
theorem lin_ext {f g : B8 → B8} (hf : Lin f) (hg : Lin g) (h : ∀ x ∈ basis, f x = g x) (x : B8) : f x = g x := by
  have hb : ∀ y z : B8, z ∈ basis → (y = 0#8 ∨ y = z) → f y = g y := fun y z hz e => by
    rcases e with rfl | rfl
    · rw [hf.zero, hg.zero]
    · exact h _ hz
  obtain ⟨b0, b1, b2, b3, b4, b5, b6, b7⟩ := bit8 x
  rw [bits8 x]
  simp only [hf _ _, hg _ _]
  rw [hb _ 1#8 (by simp [basis]) b0, hb _ 2#8 (by simp [basis]) b1, hb _ 4#8 (by simp [basis]) b2, hb _ 8#8 (by simp [basis]) b3, hb _ 16#8 (by simp [basis]) b4, hb _ 32#8 (by simp [basis]) b5, hb _ 64#8 (by simp [basis]) b6, hb _ 128#8 (by simp [basis]) b7]
theorem gmul_left (a a' b : B8) : gmul (a ^^^ a') b = gmul a b ^^^ gmul a' b := gm_left 8 a a' b
theorem gmul_right (a b b' : B8) : gmul a (b ^^^ b') = gmul a b ^^^ gmul a b' := gm_right 8 a b b'
theorem assoc_basis : ∀ a ∈ basis, ∀ b ∈ basis, ∀ c ∈ basis, gmul a (gmul b c) = gmul (gmul a b) c := by decide +kernel
theorem gmul_assoc (a b c : B8) : gmul a (gmul b c) = gmul (gmul a b) c := by
  refine lin_ext (f := fun a => gmul a (gmul b c)) (g := fun a => gmul (gmul a b) c) (fun x y => gmul_left _ _ _) (fun x y => by simp only [gmul_left]) (fun a ha => ?_) a
  refine lin_ext (f := fun b => gmul a (gmul b c)) (g := fun b => gmul (gmul a b) c) (fun x y => by simp only [gmul_left, gmul_right]) (fun x y => by simp only [gmul_left, gmul_right]) (fun b hb => ?_) b
  refine lin_ext (f := fun c => gmul a (gmul b c)) (g := fun c => gmul (gmul a b) c) (fun x y => by simp only [gmul_right]) (fun x y => by simp only [gmul_right]) (fun c hc => ?_) c
  exact assoc_basis a ha b hb c hc
theorem gmul_zero_left (x : B8) : gmul 0#8 x = 0#8 := Lin.zero (f := fun a => gmul a x) (fun _ _ => gmul_left _ _ _)
theorem gmul_zero_right (x : B8) : gmul x 0#8 = 0#8 := Lin.zero (f := fun a => gmul x a) (fun _ _ => gmul_right _ _ _)
theorem gmul_one_left : ∀ x : B8, gmul 1#8 x = x := by decide +kernel
/-- power's loop. -/
def pw : Nat → B8 → Nat → B8 → B8
  | 0, out, _, _ => out
  | f + 1, out, n, a => if n = 0 then out else pw f (if n % 2 = 1 then gmul out a else out) (n / 2) (gmul a a)
def power (a : B8) (n : Nat) : B8 := pw 10 1#8 n a
def ginv (a : B8) : B8 := if a = 0#8 then 0#8 else power a 254
/-- The factor of data row i in parity row j. -/
def coef (j i : Nat) : B8 := ginv (BitVec.ofNat 8 (128 + j) ^^^ BitVec.ofNat 8 i)
/-- The factors of a row of a code word. -/
def coefs (k at_ : Nat) : List B8 := (List.range k).map fun i => if at_ < k then (if i = at_ then 1#8 else 0#8) else coef (at_ - k) i
/-- Places of a row, each the sum of its products. -/
def addRow (c : B8) (row out : List B8) : List B8 := List.zipWith (fun x o => o ^^^ gmul c x) row out
def comb : List B8 → List (List B8) → List B8 → List B8
  | c :: cs, r :: rs, out => comb cs rs (addRow c r out)
  | _, _, out => out
def combine (c : List B8) (rows : List (List B8)) : List B8 := comb c rows (List.replicate (rows.headD []).length 0#8)
/-- One step of the elimination, k the column. -/
def pivot (k n : Nat) (rows : List (List B8)) : Nat → Nat → Nat
  | 0, at_ => at_
  | f + 1, at_ => if at_ < n ∧ (rows.getD at_ []).getD k 0#8 = 0#8 then pivot k n rows f (at_ + 1) else at_
def swap (l : List (List B8)) (i j : Nat) : List (List B8) := (l.set i (l.getD j [])).set j (l.getD i [])
def scale (r : List B8) (f : B8) : List B8 := r.map fun x => gmul x f
def elim (k : Nat) (rk : List B8) (i : Nat) (r : List B8) : List B8 := if i ≠ k ∧ r.getD k 0#8 ≠ 0#8 then addRow (r.getD k 0#8) rk r else r
def elims (k : Nat) (rows : List (List B8)) : List (List B8) := rows.mapIdx fun i r => elim k (rows.getD k []) i r
def gstep (n k : Nat) (rows : List (List B8)) : Option (List (List B8)) :=
  if pivot k n rows n k = n then none else
    let r1 := swap rows (pivot k n rows n k) k
    let r2 := r1.set k (scale (r1.getD k []) (ginv ((r1.getD k []).getD k 0#8)))
    some (elims k r2)
def gauss (n : Nat) : Nat → Nat → List (List B8) → Option (List (List B8))
  | 0, _, rows => some rows
  | f + 1, k, rows => (gstep n k rows).bind (gauss n f (k + 1))
def wide (a : List (List B8)) : List (List B8) := a.mapIdx fun i r => r ++ (List.range a.length).map fun j => if j = i then 1#8 else 0#8
def invert (a : List (List B8)) : Option (List (List B8)) := (gauss a.length a.length 0 (wide a)).map fun l => l.map fun r => r.drop a.length
end Go.Proofs.Ytgeopgibjmhehaa

/- Code words: plain mathematics. -/
namespace Go.Proofs.Ytgeopgibjmhehaa
open Go

def dot : List B8 → List B8 → B8
  | c :: cs, x :: xs => gmul c x ^^^ dot cs xs
  | _, _ => 0#8
def colm (p : Nat) (rows : List (List B8)) : List B8 := rows.map fun r => r.getD p 0#8
theorem addRow_length (c : B8) (r out : List B8) (h : r.length = out.length) : (addRow c r out).length = out.length := by
  unfold addRow; rw [List.length_zipWith, h, Nat.min_self]
theorem addRow_get (c : B8) (r out : List B8) (h : r.length = out.length) (p : Nat) (hp : p < out.length) : (addRow c r out).getD p 0#8 = out.getD p 0#8 ^^^ gmul c (r.getD p 0#8) := by
  unfold addRow
  rw [List.getD_eq_getElem?_getD, List.getD_eq_getElem?_getD, List.getD_eq_getElem?_getD, List.getElem?_eq_getElem (by rw [List.length_zipWith]; omega), List.getElem?_eq_getElem (by omega), List.getElem?_eq_getElem (by omega), List.getElem_zipWith]
  rfl
theorem comb_length : ∀ (c : List B8) (rows : List (List B8)) (out : List B8), (∀ r ∈ rows, r.length = out.length) → (comb c rows out).length = out.length
  | [], _, _, _ => rfl
  | _ :: _, [], _, _ => rfl
  | c :: cs, r :: rs, out, h => by
    have hr := h r (by simp)
    have ha := addRow_length c r out hr
    show (comb cs rs (addRow c r out)).length = _
    rw [comb_length cs rs _ (fun x hx => by rw [ha]; exact h x (by simp [hx])), ha]
theorem comb_get : ∀ (c : List B8) (rows : List (List B8)) (out : List B8), (∀ r ∈ rows, r.length = out.length) → ∀ p, p < out.length → (comb c rows out).getD p 0#8 = out.getD p 0#8 ^^^ dot c (colm p rows)
  | [], _, _, _, _, _ => by simp [comb, dot]
  | _ :: _, [], _, _, _, _ => by simp [comb, dot, colm]
  | c :: cs, r :: rs, out, h, p, hp => by
    have hr := h r (by simp)
    have ha := addRow_length c r out hr
    show (comb cs rs (addRow c r out)).getD p 0#8 = _
    rw [comb_get cs rs _ (fun x hx => by rw [ha]; exact h x (by simp [hx])) p (by omega), addRow_get c r out hr p hp]
    show _ = _ ^^^ (gmul c (r.getD p 0#8) ^^^ dot cs (colm p rs))
    ac_rfl
theorem combine_length (c : List B8) (rows : List (List B8)) (n : Nat) (h : ∀ r ∈ rows, r.length = n) (hr : rows ≠ []) : (combine c rows).length = n := by
  have h0 : (rows.headD []).length = n := by
    cases rows with
    | nil => exact (hr rfl).elim
    | cons r rs => exact h r (by simp)
  unfold combine
  rw [h0, comb_length _ _ _ (fun r hx => by rw [h r hx]; simp)]
  simp
theorem combine_get (c : List B8) (rows : List (List B8)) (n : Nat) (h : ∀ r ∈ rows, r.length = n) (hr : rows ≠ []) (p : Nat) (hp : p < n) : (combine c rows).getD p 0#8 = dot c (colm p rows) := by
  have h0 : (rows.headD []).length = n := by
    cases rows with
    | nil => exact (hr rfl).elim
    | cons r rs => exact h r (by simp)
  unfold combine
  rw [h0, comb_get _ _ _ (fun r hx => by rw [h r hx]; simp) p (by simpa using hp)]
  rw [List.getD_eq_getElem?_getD, List.getElem?_replicate, if_pos hp]
  simp
theorem list_ext {a b : List B8} (n : Nat) (ha : a.length = n) (hb : b.length = n) (h : ∀ p, p < n → a.getD p 0#8 = b.getD p 0#8) : a = b := by
  refine List.ext_getElem (by omega) fun p h1 h2 => ?_
  have := h p (by omega)
  rwa [List.getD_eq_getElem?_getD, List.getD_eq_getElem?_getD, List.getElem?_eq_getElem h1, List.getElem?_eq_getElem h2] at this
theorem dot_zero (n : Nat) : ∀ x : List B8, dot (List.replicate n 0#8) x = 0#8 := by
  induction n with
  | zero => intro x; rfl
  | succ n ih =>
    intro x
    cases x with
    | nil => rfl
    | cons a x => rw [List.replicate_succ]; show gmul 0#8 a ^^^ dot _ x = _; rw [ih, gmul_zero_left, BitVec.xor_self]
theorem dot_addRow (c : B8) : ∀ (r out x : List B8), r.length = out.length → dot (addRow c r out) x = dot out x ^^^ gmul c (dot r x)
  | [], [], x, _ => by cases x <;> simp [addRow, dot, gmul_zero_right]
  | [], _ :: _, _, h => by simp at h
  | _ :: _, [], _, h => by simp at h
  | a :: r, o :: out, [], _ => by simp [addRow, dot, gmul_zero_right]
  | a :: r, o :: out, y :: x, h => by
    show gmul (o ^^^ gmul c a) y ^^^ dot (addRow c r out) x = (gmul o y ^^^ dot out x) ^^^ gmul c (gmul a y ^^^ dot r x)
    rw [dot_addRow c r out x (by simpa using h), gmul_left, gmul_right, gmul_assoc]
    ac_rfl
theorem dot_comb : ∀ (c : List B8) (rows : List (List B8)) (out x : List B8), (∀ r ∈ rows, r.length = out.length) → dot (comb c rows out) x = dot out x ^^^ dot c (rows.map fun r => dot r x)
  | [], _, _, _, _ => by simp [comb, dot]
  | _ :: _, [], _, _, _ => by simp [comb, dot]
  | c :: cs, r :: rs, out, x, h => by
    have hr := h r (by simp)
    have ha := addRow_length c r out hr
    show dot (comb cs rs (addRow c r out)) x = _
    rw [dot_comb cs rs _ x (fun y hy => by rw [ha]; exact h y (by simp [hy])), dot_addRow c r out x hr]
    show _ = _ ^^^ (gmul c (dot r x) ^^^ dot cs _)
    ac_rfl
theorem dot_combine (c : List B8) (rows : List (List B8)) (n : Nat) (h : ∀ r ∈ rows, r.length = n) (hr : rows ≠ []) (x : List B8) : dot (combine c rows) x = dot c (rows.map fun r => dot r x) := by
  have h0 : (rows.headD []).length = n := by
    cases rows with
    | nil => exact (hr rfl).elim
    | cons r rs => exact h r (by simp)
  unfold combine
  rw [h0, dot_comb _ _ _ _ (fun r hx => by rw [h r hx]; simp), dot_zero]
  simp
theorem dot_unit (i : Nat) : ∀ (x : List B8) (s : Nat), dot ((List.range' s x.length).map fun j => if j = i then 1#8 else 0#8) x = if s ≤ i then x.getD (i - s) 0#8 else 0#8
  | [], s => by simp [dot]
  | a :: x, s => by
    rw [List.length_cons, List.range'_succ, List.map_cons]
    show gmul _ a ^^^ dot _ x = _
    rw [dot_unit i x (s + 1)]
    by_cases h : s = i
    · subst h
      rw [if_pos rfl, gmul_one_left, if_neg (by omega), if_pos (Nat.le_refl _), Nat.sub_self]
      simp
    · rw [if_neg h, gmul_zero_left]
      by_cases h2 : s + 1 ≤ i
      · rw [if_pos h2, if_pos (by omega), show i - s = (i - (s + 1)) + 1 by omega]
        simp
      · rw [if_neg h2, if_neg (by omega)]; simp
theorem coefs_length (k a : Nat) : (coefs k a).length = k := by simp [coefs]
theorem dot_coefs (k i : Nat) (hi : i < k) (x : List B8) (hx : x.length = k) : dot (coefs k i) x = x.getD i 0#8 := by
  have := dot_unit i x 0
  rw [if_pos (Nat.zero_le _), Nat.sub_zero, hx, ← List.range_eq_range'] at this
  rw [← this]
  unfold coefs
  simp only [if_pos hi]
/-- The code word of some data. -/
def word (k m : Nat) (data : List (List B8)) : List (List B8) := (List.range (k + m)).map fun a => combine (coefs k a) data
theorem word_length (k m : Nat) (data : List (List B8)) : (word k m data).length = k + m := by simp [word]
theorem word_get (k m : Nat) (data : List (List B8)) (a : Nat) (h : a < k + m) : (word k m data).getD a [] = combine (coefs k a) data := by
  unfold word
  rw [List.getD_eq_getElem?_getD, List.getElem?_map, List.getElem?_range h]
  rfl
/-- A data row is itself in its code word. -/
theorem combine_unit (k i n : Nat) (hi : i < k) (data : List (List B8)) (hk : data.length = k) (h : ∀ r ∈ data, r.length = n) : combine (coefs k i) data = data.getD i [] := by
  have hne : data ≠ [] := by rintro rfl; simp at hk; omega
  have hg : data.getD i [] = data[i]'(by omega) := by rw [List.getD_eq_getElem?_getD, List.getElem?_eq_getElem (by omega)]; rfl
  refine list_ext n (combine_length _ _ n h hne) (by rw [hg]; exact h _ (List.getElem_mem _)) fun p hp => ?_
  rw [combine_get _ _ n h hne p hp, dot_coefs k i hi _ (by simp [colm, hk])]
  unfold colm
  rw [List.getD_eq_getElem?_getD, List.getElem?_map, List.getElem?_eq_getElem (by omega), hg]
  rfl
/-- What lies below is checked by running: the inverse of a choice of k rows. -/
def good (k : Nat) (l : List Nat) : Bool :=
  match invert (l.map (coefs k)) with
  | none => false
  | some v => v.length == k && v.all (fun r => r.length == k) && (List.range k).all fun i => combine (v.getD i []) (l.map (coefs k)) == coefs k i
def subs : List Nat → List (List Nat)
  | [] => [[]]
  | x :: xs => subs xs ++ (subs xs).map (x :: ·)
theorem subs_mem {l L : List Nat} (h : l.Sublist L) : l ∈ subs L := by
  induction h with
  | slnil => simp [subs]
  | cons _ _ ih => simp [subs, ih]
  | cons_cons _ _ ih => simp [subs, ih]
set_option maxRecDepth 100000 in
theorem all_good : ∀ k < 5, ∀ m < 5, 1 ≤ k → ∀ l ∈ subs (List.range (k + m)), l.length = k → good k l = true := by decide +kernel
theorem good_sub {k m : Nat} (h1 : 1 ≤ k) (h4 : k < 5) (hm : m < 5) {l : List Nat} (hs : l.Sublist (List.range (k + m))) (hl : l.length = k) : ∃ v, invert (l.map (coefs k)) = some v ∧ v.length = k ∧ (∀ r ∈ v, r.length = k) ∧ ∀ i, i < k → combine (v.getD i []) (l.map (coefs k)) = coefs k i := by
  have := all_good k h4 m hm h1 l (subs_mem hs) hl
  unfold good at this
  cases hv : invert (l.map (coefs k)) with
  | none => rw [hv] at this; simp at this
  | some v =>
    rw [hv] at this
    simp only [Bool.and_eq_true, beq_iff_eq, List.all_eq_true, List.mem_range] at this
    exact ⟨v, rfl, this.1.1, this.1.2, this.2⟩
/-- The data out of any k rows of the code word. -/
theorem recover {k m : Nat} (h1 : 1 ≤ k) (h4 : k < 5) (hm : m < 5) {l : List Nat} (hs : l.Sublist (List.range (k + m))) (hl : l.length = k) (n : Nat) (data : List (List B8)) (hk : data.length = k) (hd : ∀ r ∈ data, r.length = n) {v : List (List B8)} (hv : invert (l.map (coefs k)) = some v) (i : Nat) (hi : i < k) :
    combine (v.getD i []) (l.map fun a => combine (coefs k a) data) = data.getD i [] := by
  obtain ⟨v', e, hvl, hvr, hvi⟩ := good_sub h1 h4 hm hs hl
  rw [hv] at e
  injection e with e
  subst e
  have hne : data ≠ [] := by rintro rfl; simp at hk; omega
  have hlne : l ≠ [] := by rintro rfl; simp at hl; omega
  have hg : data.getD i [] = data[i]'(by omega) := by rw [List.getD_eq_getElem?_getD, List.getElem?_eq_getElem (by omega)]; rfl
  have hR : ∀ r ∈ (l.map fun a => combine (coefs k a) data), r.length = n := fun r hr => by
    obtain ⟨a, _, rfl⟩ := List.mem_map.1 hr
    exact combine_length _ _ n hd hne
  have hM : ∀ r ∈ l.map (coefs k), r.length = k := fun r hr => by
    obtain ⟨a, _, rfl⟩ := List.mem_map.1 hr
    exact coefs_length k a
  refine list_ext n (combine_length _ _ n hR (by simpa using hlne)) (by rw [hg]; exact hd _ (List.getElem_mem _)) fun p hp => ?_
  rw [combine_get _ _ n hR (by simpa using hlne) p hp]
  have e1 : colm p (l.map fun a => combine (coefs k a) data) = (l.map (coefs k)).map fun r => dot r (colm p data) := by
    unfold colm
    rw [List.map_map, List.map_map]
    refine List.map_congr_left fun a _ => ?_
    exact combine_get _ _ n hd hne p hp
  rw [e1, ← dot_combine _ _ k hM (by simpa using hlne), hvi i hi, dot_coefs k i hi _ (by simp [colm, hk])]
  unfold colm
  rw [List.getD_eq_getElem?_getD, List.getElem?_map, List.getElem?_eq_getElem (by omega), hg]
  rfl
end Go.Proofs.Ytgeopgibjmhehaa
