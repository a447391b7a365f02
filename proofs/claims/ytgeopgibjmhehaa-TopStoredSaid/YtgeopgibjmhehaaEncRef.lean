/- Sealed and Encode of the reference. -/
import Derived.Test.YtgeopgibjmhehaaEnc
namespace Go.Proofs.Ytgeopgibjmhehaa
open Go.RowKit
attribute [local go_sem ↓] Go.wp_at_zero Go.wp_at_succ

theorem bcell {W w1 : World} (hb : Below W.heap.size W w1) : (∀ b o, b < W.heap.size → w1.cell? ⟨b, o, none⟩ = W.cell? ⟨b, o, none⟩) ∧ (∀ b o, b < W.heap.size → w1.frozen? ⟨b, o, none⟩ = W.frozen? ⟨b, o, none⟩) :=
  ⟨fun b o h => hb.cell (p := ⟨b, o, none⟩) h, fun b o h => hb.frozen (p := ⟨b, o, none⟩) h⟩

theorem append_str (s : ByteArray) (l : List UInt8) : s ++ (⟨l.toArray⟩ : ByteArray) = ⟨(s.data.toList ++ l).toArray⟩ := by
  apply ByteArray.ext
  simp [ByteArray.data_append]

theorem enc_cat (v f s g ve : Int) (d : ByteArray) : (((((⟨#[93, byteOf v, byteOf f, byteOf s]⟩ : ByteArray) ++ (⟨(big 5 g).toArray⟩ : ByteArray)) ++ (⟨(big 5 ve).toArray⟩ : ByteArray)) ++ (⟨#[0, 0]⟩ : ByteArray)) ++ d).data.toList = headL v f s g ve d.data.toList := by
  simp [headL, ByteArray.data_append]
theorem enc_flat (v f s g ve : Int) (l : List UInt8) : encL v f s g ve l = sealL (93 :: byteOf v :: byteOf f :: byteOf s :: (big 5 g ++ (big 5 ve ++ 0 :: 0 :: l))) := by
  simp [encL, headL]
theorem enc_size (v f s g ve : Int) (d : ByteArray) (h : d.size = 16) : (((((⟨#[93, byteOf v, byteOf f, byteOf s]⟩ : ByteArray) ++ (⟨(big 5 g).toArray⟩ : ByteArray)) ++ (⟨(big 5 ve).toArray⟩ : ByteArray)) ++ (⟨#[0, 0]⟩ : ByteArray)) ++ d).size ≤ 1000 := by
  have e := enc_cat v f s g ve d
  have h2 := congrArg List.length e
  rw [headL_length _ _ _ _ _ _ (by simpa using h)] at h2
  simp only [Array.length_toList] at h2
  exact Nat.le_trans (Nat.le_of_eq h2) (by omega)

end Go.Proofs.Ytgeopgibjmhehaa
