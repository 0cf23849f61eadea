/- What is written of a text, read: the text, or the fault that it is no text; no byte below 32 stands in it. -/
import Derived.Test.YtbdmepilmoomeaaDoorCxLaws
namespace Cx

theorem escB_head {c : UInt8} (h : c < 128) : ∃ x r, escB c = x :: r ∧ x < 128 := by
  unfold escB
  repeat (split; exact ⟨_, _, rfl, by decide⟩)
  exact ⟨_, _, rfl, h⟩

/-- The high bytes that a written text begins with are the text's own. -/
theorem high_take : ∀ (k : Nat) (t r : Bytes), (∀ c ∈ (esc t ++ 34 :: r).take k, 128 ≤ c) → k ≤ (esc t ++ 34 :: r).length → k ≤ t.length ∧ (esc t ++ 34 :: r).take k = t.take k
  | 0, t, r, _, _ => by simp
  | k + 1, [], r, h, _ => by
    have := h 34 (by simp [esc])
    exact absurd this (by decide)
  | k + 1, a :: t, r, h, hl => by
    have e : esc (a :: t) = escB a ++ esc t := rfl
    rw [e, List.append_assoc] at h hl ⊢
    by_cases ha : a < 128
    · obtain ⟨x, q, hx, hx2⟩ := escB_head ha
      rw [hx] at h
      have := h x (by simp)
      exact absurd hx2 (UInt8.not_lt.mpr this)
    · have ha' : (128 : UInt8) ≤ a := UInt8.not_lt.mp ha
      rw [escB_high ha'] at h hl ⊢
      simp only [List.singleton_append, List.take_succ_cons, List.length_cons] at h hl ⊢
      have := high_take k t r (fun c hc => h c (by simp [hc])) (by omega)
      exact ⟨by omega, by rw [this.2]⟩

theorem runeLen_bad {t r : Bytes} (h0 : runeLen t = 0) (hne : t ≠ []) (h1 : ∀ c, t.head? = some c → ¬ c < 128) : runeLen (esc t ++ 34 :: r) = 0 := by
  cases t with
  | nil => exact absurd rfl hne
  | cons a l =>
    have ha : ¬ a < 128 := h1 a rfl
    have ha' : (128 : UInt8) ≤ a := UInt8.not_lt.mp ha
    have e : esc (a :: l) ++ 34 :: r = a :: (esc l ++ 34 :: r) := by
      show (escB a ++ esc l) ++ _ = _
      rw [escB_high ha']; rfl
    by_cases hz : runeLen (esc (a :: l) ++ 34 :: r) = 0
    · exact hz
    · exfalso
      have hh := runeLen_high _ hz (fun c hc => by rw [e] at hc; cases hc; exact ha)
      have hle := (runeLen_le (esc (a :: l) ++ 34 :: r)).1
      have := high_take _ (a :: l) r hh hle
      have h2 := runeLen_take (esc (a :: l) ++ 34 :: r) ((a :: l).drop (runeLen (esc (a :: l) ++ 34 :: r))) hz
      rw [this.2, List.take_append_drop] at h2
      rw [h0] at h2
      exact hz h2.symm

/-- A text that is not valid, written, is refused as none. -/
theorem textN_bad (s : Bytes) : ∀ (L : Nat) (t : Bytes), t.length ≤ L → valid t = false → ∀ (n i : Nat) (acc r : Bytes), s.length < i + n → s.drop i = esc t ++ 34 :: r → ∃ p, textN s n i acc = .error (17, p)
  | L, [], _, hv, _, _, _, _, _, _ => by rw [valid_nil] at hv; cases hv
  | 0, a :: l, hl, _, _, _, _, _, _, _ => by simp at hl
  | L + 1, a :: l, hl, hv, n, i, acc, r, hn, h => by
    have hlt : i < s.length := by
      rcases Nat.lt_or_ge i s.length with g | g
      · exact g
      · rw [List.drop_of_length_le g] at h
        have := congrArg List.length h
        simp at this
    rw [valid_cons (by simp)] at hv
    cases n with
    | zero => omega
    | succ n =>
      by_cases ha : a < 128
      · have hr1 : runeLen (a :: l) = 1 := by simp [runeLen, runeLenC, ha]
        rw [hr1] at hv
        have hv' : valid l = false := by simpa using hv
        have hd : s.drop i = escB a ++ (esc l ++ 34 :: r) := by rw [h]; show (escB a ++ esc l) ++ _ = _; simp
        have hd2 := drop_add hd
        have hp := escB_pos a
        rw [textN_byte ha hd]
        exact textN_bad s L l (by simp at hl; omega) hv' n _ _ r (by omega) hd2
      · have ha' : (128 : UInt8) ≤ a := UInt8.not_lt.mp ha
        have ne : ∀ k : UInt8, k.toNat < 128 → ¬ a = k := fun k hk e => by
          subst e; rw [UInt8.le_iff_toNat_le] at ha'; simp at ha'; omega
        have hpk : peek s i = a := by
          have e : esc (a :: l) ++ 34 :: r = a :: (esc l ++ 34 :: r) := by
            show (escB a ++ esc l) ++ _ = _
            rw [escB_high ha']; rfl
          rw [e] at h
          exact peek_drop h
        rw [textN_succ]
        rw [hpk, if_neg (by rw [UInt8.lt_iff_toNat_lt]; rw [UInt8.le_iff_toNat_le] at ha'; simp at ha' ⊢; omega), if_neg (ne _ (by decide)), if_neg (ne _ (by decide))]
        by_cases hz : runeLen (a :: l) = 0
        · have := runeLen_bad (r := r) hz (by simp) (fun c hc => by cases hc; exact ha)
          rw [h, if_pos this]
          exact ⟨_, rfl⟩
        · have hk := runeLen_le (a :: l)
          have hhigh := runeLen_high (a :: l) hz (fun c hc => by cases hc; exact ha)
          have hsplit : a :: l = (a :: l).take (runeLen (a :: l)) ++ (a :: l).drop (runeLen (a :: l)) := (List.take_append_drop _ _).symm
          have he : esc (a :: l) = (a :: l).take (runeLen (a :: l)) ++ esc ((a :: l).drop (runeLen (a :: l))) := by
            conv => lhs; rw [hsplit]
            rw [esc_append, esc_high _ hhigh]
          have hd : s.drop i = (a :: l).take (runeLen (a :: l)) ++ (esc ((a :: l).drop (runeLen (a :: l))) ++ 34 :: r) := by rw [h, he]; simp
          have hrl : runeLen (s.drop i) = runeLen (a :: l) := by rw [hd]; exact runeLen_take _ _ hz
          have htl : ((a :: l).take (runeLen (a :: l))).length = runeLen (a :: l) := by rw [List.length_take]; omega
          have hd2 := drop_add hd
          rw [htl] at hd2
          rw [hrl, if_neg hz]
          have hv' : valid ((a :: l).drop (runeLen (a :: l))) = false := by simpa [hz] using hv
          exact textN_bad s L _ (by rw [List.length_drop]; simp only [List.length_cons] at *; omega) hv' n _ _ r (by omega) hd2

theorem parse_text_bad {t : Bytes} (hv : valid t = false) (hl : (jtext t).length ≤ 100000) : ∃ p, parse (jtext t) = .error (17, p) := by
  have hd : (jtext t).drop 0 = 34 :: (esc t ++ 34 :: []) := by simp [jtext]
  have hs : skipB (jtext t) 0 = 0 := skipB_stop (by rw [peek_drop hd]; decide)
  have hp : peek (jtext t) 0 = 34 := peek_drop hd
  have hlen : (jtext t).length = (esc t).length + 2 := by simp [jtext]
  obtain ⟨p, he⟩ := textN_bad (jtext t) t.length t (Nat.le_refl _) hv ((jtext t).length - 0) (0 + 1) [] [] (by omega) (drop_succ hd)
  refine ⟨p, ?_⟩
  unfold parse
  rw [if_neg (by omega)]
  have : value (jtext t) ((jtext t).length + 1) 0 0 0 = .error (17, p) := by
    unfold value
    simp only [hs, hp]
    rw [if_neg (by decide), if_neg (by decide), if_neg (by decide), if_neg (by decide), if_neg (by decide), if_pos trivial]
    have ht : text (jtext t) 0 = .error (17, p) := by
      unfold text
      rw [if_pos hp]; exact he
    rw [ht]
  rw [this]

theorem escB_printable (c : UInt8) : ∀ x ∈ escB c, 32 ≤ x := by
  have low : ∀ n : UInt8, 32 ≤ lowHex n ∨ 16 ≤ n := by
    intro n
    unfold lowHex
    by_cases h : n < 10
    · rw [if_pos h]; left
      rw [UInt8.lt_iff_toNat_lt] at h
      rw [UInt8.le_iff_toNat_le, UInt8.toNat_add]
      simp at h ⊢; omega
    · rw [if_neg h]
      by_cases h2 : 16 ≤ n
      · exact .inr h2
      · left
        rw [UInt8.lt_iff_toNat_lt] at h
        rw [UInt8.le_iff_toNat_le] at h2
        rw [UInt8.le_iff_toNat_le, UInt8.toNat_add]
        simp at h h2 ⊢; omega
  unfold escB
  repeat (split; (intro x hx; simp only [List.mem_cons, List.not_mem_nil, or_false] at hx; rcases hx with rfl | rfl <;> decide))
  split
  · rename_i h
    intro x hx
    have hc : c.toNat < 32 := by rw [UInt8.lt_iff_toNat_lt] at h; exact h
    have h1 : c >>> 4 < 16 := by
      rw [UInt8.lt_iff_toNat_lt, UInt8.toNat_shiftRight]
      simp [Nat.shiftRight_eq_div_pow]; omega
    have h2 : c &&& 15 < 16 := by
      rw [UInt8.lt_iff_toNat_lt, UInt8.toNat_and]
      have : c.toNat &&& (15 : UInt8).toNat ≤ (15 : UInt8).toNat := Nat.and_le_right
      simp at this ⊢; omega
    simp only [List.mem_cons, List.not_mem_nil, or_false] at hx
    rcases hx with rfl | rfl | rfl | rfl | rfl | rfl
    · decide
    · decide
    · decide
    · decide
    · rcases low (c >>> 4) with h | h
      · exact h
      · exact absurd h1 (UInt8.not_lt.mpr h)
    · rcases low (c &&& 15) with h | h
      · exact h
      · exact absurd h2 (UInt8.not_lt.mpr h)
  · rename_i h
    intro x hx
    simp only [List.mem_cons, List.not_mem_nil, or_false] at hx
    subst hx
    exact UInt8.not_lt.mp h
theorem jtext_printable (t : Bytes) : ∀ x ∈ jtext t, 32 ≤ x := by
  intro x hx
  simp only [jtext, List.mem_cons, List.mem_append, List.not_mem_nil, or_false] at hx
  rcases hx with rfl | hx | rfl
  · decide
  · simp only [esc, List.mem_flatMap] at hx
    obtain ⟨c, _, hc⟩ := hx
    exact escB_printable c x hc
  · decide

/-- The law on texts, of the model: what is read of a written text. -/
theorem parse_text (t : Bytes) (hl : (jtext t).length ≤ 100000) : parse (jtext t) = .ok (.mk 4 false t [] []) ∨ ∃ p, parse (jtext t) = .error (17, p) := by
  cases hv : valid t with
  | false => exact .inr (parse_text_bad hv hl)
  | true =>
    left
    have hr : Right (.mk 4 false t [] []) = true := by simp [Right, right, nodes, nodesK, hv]
    have hp : pr (.mk 4 false t [] []) = jtext t := by simp [pr]
    have := parse_pr hr (by rw [hp]; exact hl)
    rw [hp] at this
    exact this
end Cx
