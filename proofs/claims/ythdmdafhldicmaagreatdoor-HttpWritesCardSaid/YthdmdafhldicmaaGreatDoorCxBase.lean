/- Plain facts on the readers: what stands at a place; bounds. -/
import Derived.Test.YthdmdafhldicmaaGreatDoorCxPrint
namespace Cx

theorem peek_drop {s : Bytes} {i : Nat} {c : UInt8} {r : Bytes} (h : s.drop i = c :: r) : peek s i = c := by
  have : s[i]? = some c := by rw [← List.head?_drop, h]; rfl
  simp [peek, List.getD, this]
theorem drop_succ {s : Bytes} {i : Nat} {c : UInt8} {r : Bytes} (h : s.drop i = c :: r) : s.drop (i + 1) = r := by
  have : s.drop (i + 1) = (s.drop i).drop 1 := by rw [List.drop_drop]
  rw [this, h]; rfl
theorem drop_add {s : Bytes} {i : Nat} {x r : Bytes} (h : s.drop i = x ++ r) : s.drop (i + x.length) = r := by
  have : s.drop (i + x.length) = (s.drop i).drop x.length := by rw [List.drop_drop]
  rw [this, h]; simp
theorem peek_end {s : Bytes} {i : Nat} (h : s.length ≤ i) : peek s i = 0 := by
  simp [peek, List.getD, List.getElem?_eq_none h]
theorem peek_lt {s : Bytes} {i : Nat} (h : peek s i ≠ 0) : i < s.length := by
  rcases Nat.lt_or_ge i s.length with g | g
  · exact g
  · exact absurd (peek_end g) h
theorem drop_peek {s : Bytes} {i : Nat} (h : i < s.length) : s.drop i = peek s i :: s.drop (i + 1) := by
  rw [List.drop_eq_getElem_cons h]
  simp [peek, List.getD, List.getElem?_eq_getElem h]

theorem skipB_le {s : Bytes} {i : Nat} : i ≤ skipB s i := Nat.le_add_right _ _
theorem skipD_le {s : Bytes} {i : Nat} : i ≤ skipD s i := Nat.le_add_right _ _
theorem takeWhile_length_le {p : UInt8 → Bool} (l : Bytes) : (l.takeWhile p).length ≤ l.length := by
  induction l with
  | nil => simp
  | cons a l ih => simp only [List.takeWhile_cons]; split <;> simp; omega
theorem skipB_len {s : Bytes} {i : Nat} (h : i ≤ s.length) : skipB s i ≤ s.length := by
  have := takeWhile_length_le (p := isBlank) (s.drop i)
  simp [skipB] at *; omega
theorem skipD_len {s : Bytes} {i : Nat} (h : i ≤ s.length) : skipD s i ≤ s.length := by
  have := takeWhile_length_le (p := isDig) (s.drop i)
  simp [skipD] at *; omega
theorem skipB_step {s : Bytes} {i : Nat} (h : i < s.length) (hb : isBlank (peek s i) = true) : skipB s i = skipB s (i + 1) := by
  unfold skipB
  rw [drop_peek h, List.takeWhile_cons, if_pos hb]
  simp only [List.length_cons]; omega
theorem skipB_stop {s : Bytes} {i : Nat} (hb : isBlank (peek s i) = false) : skipB s i = i := by
  unfold skipB
  rcases Nat.lt_or_ge i s.length with h | h
  · rw [drop_peek h, List.takeWhile_cons, if_neg (by simp [hb])]; rfl
  · rw [List.drop_of_length_le h]; rfl
theorem skipD_step {s : Bytes} {i : Nat} (h : i < s.length) (hb : isDig (peek s i) = true) : skipD s i = skipD s (i + 1) := by
  unfold skipD
  rw [drop_peek h, List.takeWhile_cons, if_pos hb]
  simp only [List.length_cons]; omega
theorem skipD_stop {s : Bytes} {i : Nat} (hb : isDig (peek s i) = false) : skipD s i = i := by
  unfold skipD
  rcases Nat.lt_or_ge i s.length with h | h
  · rw [drop_peek h, List.takeWhile_cons, if_neg (by simp [hb])]; rfl
  · rw [List.drop_of_length_le h]; rfl
/-- Past a row of blanks. -/
theorem skipB_over {s : Bytes} {i : Nat} {w r : Bytes} (h : s.drop i = w ++ r) (hw : ∀ c ∈ w, isBlank c = true) (hr : isBlank (r.headD 0) = false) : skipB s i = i + w.length := by
  unfold skipB
  rw [h]
  have e : (w ++ r).takeWhile isBlank = w := by
    rw [List.takeWhile_append_of_pos hw]
    cases r with
    | nil => simp
    | cons c r => simp [show isBlank c = false from hr]
  rw [e]
theorem skipB_idem {s : Bytes} {i : Nat} : skipB s (skipB s i) = skipB s i := by
  apply skipB_stop
  unfold skipB
  generalize hn : ((s.drop i).takeWhile isBlank).length = n
  have key : ∀ (l : Bytes), isBlank ((l.drop (l.takeWhile isBlank).length).headD 0) = false := by
    intro l
    induction l with
    | nil => rfl
    | cons a l ih =>
      rw [List.takeWhile_cons]
      split
      · simpa using ih
      · rename_i hx; simpa using hx
  have := key (s.drop i)
  rw [hn, List.drop_drop] at this
  have e : peek s (i + n) = (s.drop (i + n)).headD 0 := by
    rcases Nat.lt_or_ge (i + n) s.length with h | h
    · rw [drop_peek h]; rfl
    · rw [List.drop_of_length_le h, peek_end h]; rfl
  rw [e]; exact this
theorem isBlank_ne {c : UInt8} (h : isBlank c = true) : c = 32 ∨ c = 9 ∨ c = 10 ∨ c = 13 := by
  simp only [isBlank, Bool.or_eq_true, beq_iff_eq] at h
  rcases h with ((h | h) | h) | h <;> simp [h]

end Cx
