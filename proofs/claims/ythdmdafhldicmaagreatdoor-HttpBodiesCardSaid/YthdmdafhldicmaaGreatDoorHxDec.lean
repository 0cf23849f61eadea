/- The values of a head are no longer than the text; a row of digits is small. -/
import Derived.Test.YthdmdafhldicmaaGreatDoorHxVal
namespace Hx

theorem trim_le (t : Bytes) : (trim t).length ≤ t.length := by
  unfold trim
  refine Nat.le_trans (List.dropWhile_sublist _).length_le ?_
  rw [List.length_reverse]
  refine Nat.le_trans (List.dropWhile_sublist _).length_le ?_
  rw [List.length_reverse]
  exact Nat.le_refl _
theorem field_values {f g : F} {l : Bytes} {L : Nat} (h : field f l = some g) (hv : ∀ v ∈ f.values, v.length ≤ L) (hl : l.length ≤ L) : ∀ v ∈ g.values, v.length ≤ L := by
  unfold field at h
  split at h
  · injection h with h
    subst h
    intro v hm
    simp only [List.mem_append, List.mem_singleton] at hm
    rcases hm with hm | rfl
    · exact hv v hm
    · refine Nat.le_trans (trim_le _) (Nat.le_trans ?_ hl)
      simp [behind]
  · cases h
theorem fieldsN_values (s : Bytes) (most : Nat) : ∀ (n : Nat) (f : F) (i : Nat) (g : F), (fieldsN s most n f i).1 = some g → (∀ v ∈ f.values, v.length ≤ s.length) → ∀ v ∈ g.values, v.length ≤ s.length
  | 0, f, i, g, h, _ => by simp [fieldsN] at h
  | n + 1, f, i, g, h, hv => by
    rw [fieldsN_succ] at h
    by_cases h1 : (line s i most).2.1 ≠ 200
    · rw [if_pos h1] at h; cases h
    · rw [if_neg h1] at h
      by_cases h2 : (line s i most).1 = []
      · rw [if_pos h2] at h
        injection h with h
        subst h
        exact hv
      · rw [if_neg h2] at h
        cases hf : field f (line s i most).1 with
        | none => rw [hf] at h; cases h
        | some f2 =>
          rw [hf] at h
          exact fieldsN_values s most n f2 _ g h (field_values hf hv (line_text_le s i most))
theorem fields_values {s : Bytes} {i most : Nat} {g : F} (h : (fields s i most).1 = some g) : ∀ v ∈ g.values, v.length ≤ s.length :=
  fieldsN_values s most _ _ _ g h (fun v hv => by cases hv)
theorem decN_lt : ∀ (l : Bytes) (a k : Nat), (∀ c ∈ l, digit c = true) → a < 10 ^ k → decN l a < 10 ^ (k + l.length)
  | [], a, k, _, h => by simpa [decN] using h
  | c :: l, a, k, hd, h => by
    have hc := hd c (by simp)
    simp only [digit, Bool.and_eq_true, decide_eq_true_eq, UInt8.le_iff_toNat_le] at hc
    have hc' : 48 ≤ c.toNat ∧ c.toNat ≤ 57 := hc
    have := decN_lt l (a * 10 + (c.toNat - 48)) (k + 1) (fun x hx => hd x (by simp [hx])) (by rw [Nat.pow_succ]; omega)
    rw [List.length_cons, show k + (l.length + 1) = k + 1 + l.length by omega]
    exact this
end Hx
