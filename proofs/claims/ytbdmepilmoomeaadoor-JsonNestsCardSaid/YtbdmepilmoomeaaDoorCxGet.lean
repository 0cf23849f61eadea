/- The value behind a name of an object; a value in a list and in an object. -/
import Derived.Test.YtbdmepilmoomeaaDoorCxLaws
namespace Cx

/-- The value behind a name, of an object. -/
def get : J → Bytes → Option J
  | .mk k _ _ ns ks, n => if k = 6 ∧ n ∈ ns then ks[ns.idxOf n]? else none

mutual
theorem right_mono : ∀ (v : J) (d : Nat), right (d + 1) v = true → right d v = true
  | .mk k is t ns ks, d, h => by
    unfold right at h ⊢
    by_cases h1 : k = 1
    · rw [if_pos h1] at h ⊢; exact h
    rw [if_neg h1] at h ⊢
    by_cases h2 : k = 2
    · rw [if_pos h2] at h ⊢; exact h
    rw [if_neg h2] at h ⊢
    by_cases h3 : k = 3
    · rw [if_pos h3] at h ⊢; exact h
    rw [if_neg h3] at h ⊢
    by_cases h4 : k = 4
    · rw [if_pos h4] at h ⊢; exact h
    rw [if_neg h4] at h ⊢
    by_cases h5 : k = 5
    · rw [if_pos h5] at h ⊢
      simp only [Bool.and_eq_true, decide_eq_true_eq] at h ⊢
      exact ⟨⟨h.1.1, by omega⟩, rightK_mono ks (d + 1) h.2⟩
    rw [if_neg h5] at h ⊢
    by_cases h6 : k = 6
    · rw [if_pos h6] at h ⊢
      simp only [Bool.and_eq_true, decide_eq_true_eq] at h ⊢
      exact ⟨⟨h.1.1, by omega⟩, rightK_mono ks (d + 1) h.2⟩
    rw [if_neg h6] at h
    cases h
theorem rightK_mono : ∀ (ks : List J) (d : Nat), rightK (d + 1) ks = true → rightK d ks = true
  | [], d, _ => by unfold rightK; rfl
  | k :: ks, d, h => by
    unfold rightK at h ⊢
    simp only [Bool.and_eq_true] at h ⊢
    exact ⟨right_mono k d h.1, rightK_mono ks d h.2⟩
end

def list2 (a b : J) : J := .mk 5 false [] [] [a, b]
def obj2 (n m : Bytes) (a b : J) : J := .mk 6 false [] [n, m] [a, b]
theorem list2_wrong {a b : J} (h : right 0 a = false ∨ right 0 b = false) : print (list2 a b) = [] := by
  unfold print
  rw [if_neg]
  intro hr
  unfold Right list2 right at hr
  simp [rightK] at hr
  have := hr.2
  rcases h with h | h
  · rw [right_mono a 0 this.1] at h; cases h
  · rw [right_mono b 0 this.2] at h; cases h
theorem obj2_wrong {n m : Bytes} {a b : J} (h : right 0 a = false ∨ right 0 b = false) : print (obj2 n m a b) = [] := by
  unfold print
  rw [if_neg]
  intro hr
  unfold Right obj2 right at hr
  simp [rightK] at hr
  have := hr.2.2
  rcases h with h | h
  · rw [right_mono a 0 this.1] at h; cases h
  · rw [right_mono b 0 this.2] at h; cases h
theorem right_of_light {a : J} (hn : nodes a ≤ 2000) : Right a = right 0 a := by
  unfold Right
  rw [decide_eq_true (by omega), Bool.true_and]
theorem print_nil_iff (v : J) : print v = [] ↔ Right v = false := by
  have := @print_ne v
  constructor
  · intro h
    cases hr : Right v with
    | false => rfl
    | true => exact absurd h (this.2 hr)
  · intro h
    unfold print; rw [h]; rfl
theorem print_list2 {a b : J} (h : Right (list2 a b) = true) : print (list2 a b) = 91 :: (pr a ++ 44 :: (pr b ++ [93])) := by
  unfold print
  rw [h]
  simp [list2, pr, prK]
theorem print_obj2 {n m : Bytes} {a b : J} (h : Right (obj2 n m a b) = true) : print (obj2 n m a b) = 123 :: (jtext n ++ 58 :: (pr a ++ 44 :: (jtext m ++ 58 :: (pr b ++ [125])))) := by
  unfold print
  rw [h]
  simp [obj2, pr, prK]
theorem get_first (n m : Bytes) (a b : J) : get (obj2 n m a b) n = some a := by
  simp [get, obj2]
theorem get_second {n m : Bytes} (h : n ≠ m) (a b : J) : get (obj2 n m a b) m = some b := by
  have h' : (n == m) = false := by simpa using h
  simp [get, obj2, List.idxOf_cons, h']
theorem get_list (n : Bytes) (a b : J) : get (list2 a b) n = none := by simp [get, list2]
theorem get_none {n m x : Bytes} (h1 : x ≠ n) (h2 : x ≠ m) (a b : J) : get (obj2 n m a b) x = none := by
  simp [get, obj2, h1, h2]
end Cx
