/- A request: bounds on places; the statuses. -/
import Derived.Test.YthdmdafhldicmaaGreatDoorHxCh
import Derived.Test.YthdmdafhldicmaaGreatDoorHxDec
namespace Hx
theorem fieldsN_le (s : Bytes) (most : Nat) : ∀ (n : Nat) (f : F) (i : Nat), i ≤ s.length → i ≤ (fieldsN s most n f i).2.2 ∧ (fieldsN s most n f i).2.2 ≤ s.length
  | 0, f, i, h => ⟨Nat.le_refl _, h⟩
  | n + 1, f, i, h => by
    have hl := line_le (s := s) (i := i) (most := most) h
    rw [fieldsN_succ]
    split
    · exact hl
    · split
      · exact hl
      · cases field f (line s i most).1 with
        | none => exact hl
        | some g => have := fieldsN_le s most n g _ hl.2; exact ⟨Nat.le_trans hl.1 this.1, this.2⟩
theorem fields_le {s : Bytes} {i most : Nat} (h : i ≤ s.length) : i ≤ (fields s i most).2.2 ∧ (fields s i most).2.2 ≤ s.length := fieldsN_le s most _ _ _ h
theorem fieldsN_st (s : Bytes) (most : Nat) : ∀ (n : Nat) (f : F) (i : Nat), ((fieldsN s most n f i).1 = none → (fieldsN s most n f i).2.1 ≠ 200)
  | 0, f, i, _ => by simp [fieldsN]
  | n + 1, f, i, h => by
    rw [fieldsN_succ] at h ⊢
    split
    · assumption
    · rename_i h1
      rw [if_neg h1] at h
      split
      · rename_i h2; rw [if_pos h2] at h; cases h
      · rename_i h2
        rw [if_neg h2] at h
        cases hf : field f (line s i most).1 with
        | none => simp
        | some g => rw [hf] at h; exact fieldsN_st s most n g _ h
theorem fields_st {s : Bytes} {i most : Nat} (h : (fields s i most).1 = none) : (fields s i most).2.1 ≠ 200 := fieldsN_st s most _ _ _ h
theorem length_none {f : F} (h : (length f).1 = none) : (length f).2 = 200 := by
  revert h
  unfold length
  simp only
  split
  · intro h; cases h
  · split
    · intro _; rfl
    · split
      · intro h; cases h
      · split
        · intro h; cases h
        · split
          · intro h; cases h
          · split
            · intro h; cases h
            · intro h; cases h
theorem length_le {f : F} {n : Nat} (h : (length f).1 = some n) : n ≤ 8000 := by
  revert h
  unfold length
  simp only
  split
  · intro h; injection h with h; omega
  · split
    · intro h; cases h
    · split
      · intro h; injection h with h; omega
      · split
        · intro h; injection h with h; omega
        · split
          · intro h; injection h with h; omega
          · split
            · intro h; injection h with h; omega
            · intro h; injection h with h; omega
theorem topN_succ (s : Bytes) (n i : Nat) : topN s (n + 1) i = if (line s i 2000).1 = [] ∧ (line s i 2000).2.1 = 200 then topN s n (line s i 2000).2.2 else line s i 2000 := by
  conv => lhs; unfold topN
end Hx
