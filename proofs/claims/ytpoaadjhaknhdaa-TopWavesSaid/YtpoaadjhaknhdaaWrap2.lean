/- The bounds of an opened uint32 and uint8. -/
import Derived.Test.YtpoaadjhaknhdaaWrap
namespace Go.Proofs.Ytpoaadjhaknhdaa

theorem wf_u32 {n : Int} (h : (Lit.int .u32 n).wf = true) : ∃ m : BitVec 32, n = (m.toNat : Int) := by
  simp only [Lit.wf, Bool.and_eq_true, decide_eq_true_eq] at h
  have h0 : (0 : Int) ≤ n := h.1
  have h1 : n ≤ 4294967295 := h.2
  exact ⟨BitVec.ofNat 32 n.toNat, by rw [BitVec.toNat_ofNat]; omega⟩
theorem wf_u8 {n : Int} (h : (Lit.int .u8 n).wf = true) : ∃ m : UInt8, n = (m.toNat : Int) := by
  simp only [Lit.wf, Bool.and_eq_true, decide_eq_true_eq] at h
  have h0 : (0 : Int) ≤ n := h.1
  have h1 : n ≤ 255 := h.2
  exact ⟨UInt8.ofNat n.toNat, by simp; omega⟩
end Go.Proofs.Ytpoaadjhaknhdaa
