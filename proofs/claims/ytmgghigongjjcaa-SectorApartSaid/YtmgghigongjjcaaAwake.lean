/- The sanity check of chapter 25. -/
import Derived.Test.YtmgghigongjjcaaFlip
namespace Go.Proofs.Ytmgghigongjjcaa
open Go.RowKit Go.Sort

def demo : List UInt8 := [48, 49, 50, 51, 52, 53, 54, 55, 56, 57, 97, 98, 99, 100, 101, 102]

set_option maxHeartbeats 1000000 in
theorem awake_any (w : World) :
    Calls Try.prog 12 #[] w fun e w' => e = .returned (.bool true) ∧ Below w.heap.size w w' := by
  have hv : validB 1 2 3 4 5 (⟨#[48, 49, 50, 51, 52, 53, 54, 55, 56, 57, 97, 98, 99, 100, 101, 102]⟩ : ByteArray).size = true := by decide
  have hde := dec_enc_cells 1 2 3 4 5 demo (by decide)
  have HV := hid hv
  have HDE := hid hde
  clear hv hde
  go_enter Try.func12, Try.ntmps12
  go_wp2_with fail
  refine (enc_prog_yes 1 2 3 4 5 _ _ HV.out).mono ?_
  rintro e w2 ⟨rfl, hb2⟩
  rw [show ({ data := #[48, 49, 50, 51, 52, 53, 54, 55, 56, 57, 97, 98, 99, 100, 101, 102] } : ByteArray).data.toList = demo from rfl]
  have hp := (piece_new w 1 2 3 4 5 ⟨#[48, 49, 50, 51, 52, 53, 54, 55, 56, 57, 97, 98, 99, 100, 101, 102]⟩ 23).below hb2 (by simp)
  have hb3 : Below w.heap.size w w2 := ((Below.refl _ _).alloc (Nat.le_refl _) _).trans (hb2.mono (by simp))
  have HEL := hid (encL_length 1 2 3 4 5 demo rfl)
  clear hb2 HV
  generalize encL 1 2 3 4 5 demo = E at HDE HEL ⊢
  have hsz : (⟨E.toArray⟩ : ByteArray).size = 36 := HEL.out
  have HSZ := hid hsz
  clear hsz
  go_wp2_with fail
  refine (dec_prog ⟨E.toArray⟩ _ (by rw [HSZ.out]; unfold maxLen; omega)).mono ?_
  rintro e w3 ⟨rfl, hb4⟩
  rw [show ({ data := E.toArray } : ByteArray).data.toList = E from rfl, HDE.out.1, HDE.out.2]
  have hp3 := hp.below hb4 hp.lt
  have hb5 := hb3.trans (hb4.mono hb3.size)
  clear hp hb3 hb4
  go_wp2_with fail
  refine (sum_prog ⟨#[]⟩ _ (by unfold maxLen; decide)).mono ?_
  rintro e w4 ⟨rfl, rfl⟩
  rw [show u32 (crc ({ data := #[] } : ByteArray).data.toList) = .int .u32 4294967295 from rfl]
  have hel : E.length = 36 := HEL.out
  obtain ⟨c0, c1, c2, c3, c4, c5⟩ := hp3.cells
  have hlt := hp3.lt
  go_wp2
  go_ret
  exact ⟨rfl, hb5.alloc hb5.size _⟩
end Go.Proofs.Ytmgghigongjjcaa
