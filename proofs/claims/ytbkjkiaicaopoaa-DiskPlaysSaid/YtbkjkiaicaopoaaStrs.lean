/-
  Strings compared, as the walk writes it.
-/
import Derived.WalkKit
namespace Go.Proofs.Ytbkjkiaicaopoaa
theorem ba_loop (b : ByteArray) (i : Nat) (r : List UInt8) : ByteArray.toList.loop b i r = r.reverse ++ b.data.toList.drop i := by
  by_cases h : i < b.size
  · have h' : i < b.data.size := h
    have hd : b.data.toList.drop i = b.data[i]'h :: b.data.toList.drop (i + 1) := by
      rw [List.drop_eq_getElem_cons (by rw [Array.length_toList]; exact h'), Array.getElem_toList]
    rw [ByteArray.toList.loop, if_pos h, ba_loop b (i + 1) _, hd]
    have hg : b.get! i = b.data[i]'h := by
      show b.data[i]! = _
      exact getElem!_pos b.data i h'
    rw [hg, List.reverse_cons, List.append_assoc, List.singleton_append]
  · have h' : b.data.toList.length ≤ i := by rw [Array.length_toList]; exact Nat.le_of_not_lt h
    rw [ByteArray.toList.loop, if_neg h, List.drop_eq_nil_of_le h', List.append_nil]
termination_by b.size - i
theorem ba_toList (b : ByteArray) : b.toList = b.data.toList := by
  rw [ByteArray.toList, ba_loop, List.reverse_nil, List.nil_append, List.drop_zero]
theorem ba_inj {a b : ByteArray} (h : a.toList = b.toList) : a = b := by
  rw [ba_toList, ba_toList] at h
  obtain ⟨⟨a⟩⟩ := a
  obtain ⟨⟨b⟩⟩ := b
  simp at h
  rw [h]
theorem ba_eq {a b : ByteArray} (h : (!a.toList == b.toList) = false) : a = b := by
  simp only [Bool.not_eq_false', beq_iff_eq] at h
  exact ba_inj h
theorem ba_eq' {a b : ByteArray} (h : (a.toList == b.toList) = true) : a = b := by
  simp only [beq_iff_eq] at h
  exact ba_inj h
theorem ba_ne {a b : ByteArray} (h : (!a.toList == b.toList) = true) : a ≠ b := by rintro rfl; simp at h
theorem ba_ne' {a b : ByteArray} (h : (a.toList == b.toList) = false) : a ≠ b := by rintro rfl; simp at h
end Go.Proofs.Ytbkjkiaicaopoaa
