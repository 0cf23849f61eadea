/- Small laws of the plain model of package http's reader. -/
import Derived.Test.YthdmdafhldicmaaGreatDoorHxModel
namespace Hx

theorem ahead_not {c : UInt8} {s : Bytes} (h : c ∉ s) : ahead c s = s := by
  unfold ahead; rw [List.idxOf_eq_length h, List.take_length]
theorem behind_not {c : UInt8} {s : Bytes} (h : c ∉ s) : behind c s = [] := by
  unfold behind; rw [List.idxOf_eq_length h]; exact List.drop_eq_nil_of_le (by omega)
theorem idx_lt {c : UInt8} {s : Bytes} (h : c ∈ s) : s.idxOf c < s.length := List.idxOf_lt_length_of_mem h
theorem ahead_length {c : UInt8} {s : Bytes} : (ahead c s).length = s.idxOf c := by
  unfold ahead
  rw [List.length_take]
  have : s.idxOf c ≤ s.length := List.idxOf_le_length
  omega
theorem part_length (s : Bytes) (i most : Nat) : ((s.drop i).take (max most i - i)).length = min (max most i - i) (s.length - i) := by
  rw [List.length_take, List.length_drop]

theorem line_le {s : Bytes} {i most : Nat} (hi : i ≤ s.length) : i ≤ (line s i most).2.2 ∧ (line s i most).2.2 ≤ s.length := by
  unfold line
  simp only
  split
  · rename_i h
    have hl := idx_lt h
    rw [part_length] at hl
    split
    · exact ⟨by simp only; omega, by simp only; omega⟩
    · exact ⟨by simp only; omega, by simp only; omega⟩
  · split
    · exact ⟨Nat.le_refl _, hi⟩
    · exact ⟨Nat.le_refl _, hi⟩
theorem line_lt {s : Bytes} {i most : Nat} (h : (line s i most).2.1 = 200) : i < (line s i most).2.2 := by
  unfold line at h ⊢
  simp only at h ⊢
  split
  · split
    · simp only; omega
    · rename_i h10 _ h2
      rw [if_pos h10, h2] at h
      simp at h
  · rename_i h10
    rw [if_neg h10] at h
    split at h <;> simp at h
theorem line_text {s : Bytes} {i most : Nat} (h : (line s i most).2.1 ≠ 200) : (line s i most).1 = [] := by
  unfold line at h ⊢
  simp only at h ⊢
  split
  · split
    · rename_i h10 _ l h2
      rw [if_pos h10, h2] at h
      simp at h
    · rfl
  · split <;> rfl
theorem line_text_le (s : Bytes) (i most : Nat) : (line s i most).1.length ≤ s.length := by
  unfold line
  simp only
  split
  · split
    · rename_i h10 _ l h2
      unfold lineText at h2
      split at h2
      · injection h2 with h2
        rw [← h2]
        simp only [List.length_dropLast, ahead_length]
        have := idx_lt h10
        rw [part_length] at this
        omega
      · cases h2
    · simp
  · split <;> simp
end Hx
