/- Plain laws: lines, one byte behind the other; an empty last line changes no bulk; no program in sight. -/
import Derived.Test.YtejlddimokmgjaaGreatDoorKc
namespace Dx
open Cx (Bytes J)

/-- The lines behind some bytes of the first one; an empty last line is none. -/
def rl : Bytes → Bytes → List Bytes
  | cur, [] => if cur = [] then [] else [cur]
  | cur, c :: r => if c = 10 then cur :: rl [] r else rl (cur ++ [c]) r
def rlines (s : Bytes) : List Bytes := rl [] s
theorem linesN_rl : ∀ (s cur : Bytes), 10 ∉ cur → linesN (s.count 10) (cur ++ s) = rl cur s ∨ linesN (s.count 10) (cur ++ s) = rl cur s ++ [[]]
  | [], cur, h => by
    simp only [List.count_nil, List.append_nil, linesN, rl]
    by_cases hc : cur = []
    · subst hc; right; rfl
    · left; rw [if_neg hc]
  | c :: r, cur, h => by
    by_cases hc : c = 10
    · subst hc
      have hm : (10 : UInt8) ∈ cur ++ 10 :: r := by simp
      have hi : (cur ++ 10 :: r).idxOf 10 = cur.length := by
        rw [List.idxOf_append, if_neg h]; simp
      have e : linesN ((10 :: r).count 10) (cur ++ 10 :: r) = cur :: linesN (r.count 10) ([] ++ r) := by
        rw [List.count_cons_self]
        conv => lhs; unfold linesN
        rw [if_pos hm, hi]
        simp
      rw [e]
      simp only [rl, if_pos]
      rcases linesN_rl r [] (by simp) with h2 | h2
      · left; rw [h2]
      · right; rw [h2]; simp
    · have e : (c :: r).count 10 = r.count 10 := List.count_cons_of_ne hc
      rw [e, show cur ++ c :: r = (cur ++ [c]) ++ r by simp]
      simp only [rl, if_neg hc]
      exact linesN_rl r (cur ++ [c]) (by simp [h]; exact fun h => hc h.symm)
theorem bulkL_tail : ∀ (l : List Bytes), bulkL (l ++ [[]]) = bulkL l
  | [] => by simp [bulkL]
  | a :: l => by
    have ih := bulkL_tail l
    simp only [List.cons_append, bulkL]
    rw [ih]
theorem bulk_rlines (s : Bytes) : bulkL (rlines s) = bulk s := by
  unfold bulk lines rlines
  rcases linesN_rl s [] (by simp) with h | h
  · rw [List.nil_append] at h; rw [h]
  · rw [List.nil_append] at h; rw [h, bulkL_tail]
theorem rl_length : ∀ (s cur : Bytes), (rl cur s).length ≤ s.length + 1
  | [], cur => by
    simp only [rl]; split <;> simp
  | c :: r, cur => by
    simp only [rl]
    split
    · have := rl_length r []; simp only [List.length_cons]; omega
    · have := rl_length r (cur ++ [c]); simp only [List.length_cons]; omega
theorem rl_part : ∀ (s cur : Bytes) {l : Bytes}, l ∈ rl cur s → l.length ≤ cur.length + s.length
  | [], cur, l, h => by
    simp only [rl] at h
    split at h
    · simp at h
    · simp at h; subst h; simp
  | c :: r, cur, l, h => by
    simp only [rl] at h
    split at h
    · rcases List.mem_cons.1 h with rfl | h
      · omega
      · have := rl_part r [] h; simp only [List.length_nil, List.length_cons] at this ⊢; omega
    · have := rl_part r (cur ++ [c]) h; simp only [List.length_append, List.length_cons, List.length_nil] at this ⊢; omega
/-- What lies between two places. -/
def btw (s : Bytes) (f i : Nat) : Bytes := (s.drop f).take (i - f)
theorem btw_self (s : Bytes) (f : Nat) : btw s f f = [] := by simp [btw]
theorem btw_snoc {s : Bytes} {f i : Nat} {c : UInt8} (hf : f ≤ i) (hc : s[i]? = some c) : btw s f (i + 1) = btw s f i ++ [c] := by
  unfold btw
  rw [show i + 1 - f = (i - f) + 1 by omega, List.take_add_one]
  congr 1
  rw [List.getElem?_drop, show f + (i - f) = i by omega, hc]; rfl
theorem rl_feed {s : Bytes} {f i : Nat} (hc : s[i]? = some 10) : rl (btw s f i) (s.drop i) = btw s f i :: rl (btw s (i + 1) (i + 1)) (s.drop (i + 1)) := by
  have hl : i < s.length := by
    rcases Nat.lt_or_ge i s.length with h | h
    · exact h
    · rw [List.getElem?_eq_none h] at hc; cases hc
  have e : s.drop i = 10 :: s.drop (i + 1) := by
    rw [List.drop_eq_getElem_cons hl]; congr 1
    rw [List.getElem?_eq_getElem hl] at hc; exact Option.some.inj hc
  rw [e, btw_self]
  simp [rl]
theorem rl_more {s : Bytes} {f i : Nat} {c : UInt8} (hf : f ≤ i) (hc : s[i]? = some c) (hn : c ≠ 10) : rl (btw s f i) (s.drop i) = rl (btw s f (i + 1)) (s.drop (i + 1)) := by
  have hl : i < s.length := by
    rcases Nat.lt_or_ge i s.length with h | h
    · exact h
    · rw [List.getElem?_eq_none h] at hc; cases hc
  have e : s.drop i = c :: s.drop (i + 1) := by
    rw [List.drop_eq_getElem_cons hl]; congr 1
    rw [List.getElem?_eq_getElem hl] at hc; exact Option.some.inj hc
  rw [e, btw_snoc hf hc]
  simp [rl, hn]
theorem rl_end {s : Bytes} {f : Nat} : rl (btw s f s.length) (s.drop s.length) = if f < s.length then [s.drop f] else [] := by
  rw [List.drop_length]
  simp only [rl]
  unfold btw
  rw [List.take_of_length_le (by simp)]
  by_cases h : f < s.length
  · rw [if_pos h, if_neg]
    intro e
    have := congrArg List.length e
    simp at this; omega
  · rw [if_neg h, if_pos]
    exact List.drop_of_length_le (by omega)
end Dx
