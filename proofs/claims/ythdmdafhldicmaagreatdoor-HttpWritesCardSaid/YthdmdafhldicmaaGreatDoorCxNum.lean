/- Plain facts on numbers: bounds; a number is told by its own bytes and what stands behind them. -/
import Derived.Test.YthdmdafhldicmaaGreatDoorCxBase
namespace Cx

theorem isDig_zero : isDig 0 = false := rfl

theorem skipD_dig {s : Bytes} (i : Nat) : ∀ k, i ≤ k → k < skipD s i → isDig (peek s k) = true := by
  intro k h1 h2
  rcases Nat.lt_or_ge i s.length with hi | hi
  · by_cases hd : isDig (peek s i) = true
    · by_cases hk : k = i
      · rw [hk]; exact hd
      · have hs := skipD_step hi hd
        rw [hs] at h2
        exact skipD_dig (i + 1) k (by omega) h2
    · have := skipD_stop (s := s) (i := i) (by simpa using hd); omega
  · have := skipD_stop (s := s) (i := i) (by rw [peek_end hi]; rfl); omega
termination_by s.length - i

theorem skipD_end {s : Bytes} (i : Nat) : isDig (peek s (skipD s i)) = false := by
  rcases Nat.lt_or_ge i s.length with hi | hi
  · by_cases hd : isDig (peek s i) = true
    · rw [skipD_step hi hd]; exact skipD_end (i + 1)
    · rw [skipD_stop (by simpa using hd)]; simpa using hd
  · rw [skipD_stop (by rw [peek_end hi]; rfl), peek_end hi]; rfl
termination_by s.length - i

theorem skipD_unique {s : Bytes} {i j : Nat} (hij : i ≤ j) (h : ∀ k, i ≤ k → k < j → isDig (peek s k) = true) (he : isDig (peek s j) = false) : skipD s i = j := by
  have h1 := skipD_end (s := s) i
  have h2 := skipD_dig (s := s) i
  have h3 := skipD_le (s := s) (i := i)
  rcases Nat.lt_trichotomy (skipD s i) j with g | g | g
  · rw [h _ h3 g] at h1; cases h1
  · exact g
  · rw [h2 _ hij g] at he; cases he

theorem digits_ok {s : Bytes} {i j : Nat} (h : digits s i = .ok j) : j = skipD s i ∧ i < j := by
  unfold digits at h
  split at h
  · cases h
  · have := skipD_le (s := s) (i := i)
    injection h with h; subst h; omega
theorem digits_err {s : Bytes} {i : Nat} {e : Nat × Nat} (h : digits s i = .error e) : e = (7, i) := by
  unfold digits at h
  split at h
  · injection h with h; exact h.symm
  · cases h
theorem digits_len {s : Bytes} {i j : Nat} (h : digits s i = .ok j) : j ≤ s.length := by
  obtain ⟨rfl, h1⟩ := digits_ok h
  rcases Nat.lt_or_ge i s.length with g | g
  · exact skipD_len (by omega)
  · rw [skipD_stop (by rw [peek_end g]; rfl)] at h1; omega

theorem opt_le {s l : Bytes} {i : Nat} : i ≤ opt s l i ∧ opt s l i ≤ i + 1 := by unfold opt; split <;> omega
theorem opt_len {s l : Bytes} {i : Nat} (hl : (0 : UInt8) ∉ l) (h : i ≤ s.length) : opt s l i ≤ s.length := by
  unfold opt
  split
  · rename_i g
    have : peek s i ≠ 0 := fun e => hl (e ▸ g)
    have := peek_lt this; omega
  · exact h

/-- May a byte stand behind a number? -/
def ends (c : UInt8) : Prop := isDig c = false ∧ c ∉ ([45, 46, 101, 69, 43] : Bytes)

/-- Two texts that are the same up to a place, where the second may end a number. -/
structure Same (l l' : Bytes) (n : Nat) : Prop where
  eq : ∀ k, k < n → peek l' k = peek l k
  fin : ends (peek l' n) ∨ peek l' n = peek l n

theorem digits_same {l l' : Bytes} {a b n : Nat} (h : digits l a = .ok b) (hb : b ≤ n) (hs : Same l l' n) : digits l' a = .ok b := by
  obtain ⟨rfl, hlt⟩ := digits_ok h
  have e : skipD l' a = skipD l a := by
    refine skipD_unique (by omega) (fun k h1 h2 => ?_) ?_
    · rw [hs.eq k (by omega)]; exact skipD_dig a k h1 h2
    · rcases Nat.lt_or_ge (skipD l a) n with g | g
      · rw [hs.eq _ g]; exact skipD_end a
      · have hn : skipD l a = n := by omega
        rcases hs.fin with h | h
        · rw [hn]; exact h.1
        · rw [hn, h, ← hn]; exact skipD_end a
  unfold digits
  rw [e, if_neg (by omega)]

theorem opt_same_in {l l' cs : Bytes} {a n : Nat} (h : opt l cs a = a + 1) (ha : a < n) (hs : Same l l' n) : opt l' cs a = a + 1 := by
  unfold opt at *
  split at h
  · rename_i g; rw [if_pos (by rw [hs.eq a ha]; exact g)]
  · omega
theorem opt_same_out {l l' cs : Bytes} {a n : Nat} (h : opt l cs a = a) (ha : a ≤ n) (hs : Same l l' n) (hc : ∀ c ∈ cs, ¬ ends c) : opt l' cs a = a := by
  unfold opt at *
  split at h
  · omega
  · rename_i g
    rw [if_neg]
    rcases Nat.lt_or_ge a n with h' | h'
    · rw [hs.eq a h']; exact g
    · have : a = n := by omega
      subst this
      rcases hs.fin with h | h
      · exact fun k => hc _ k h
      · rw [h]; exact g
theorem opt_cases {s l : Bytes} {i : Nat} : opt s l i = i ∨ opt s l i = i + 1 := by unfold opt; split <;> simp

theorem ends_minus : ∀ c ∈ ([45] : Bytes), ¬ ends c := by intro c h; simp at h; subst h; simp [ends]
theorem ends_zero : ∀ c ∈ ([48] : Bytes), ¬ ends c := by intro c h; simp at h; subst h; simp [ends, isDig]
theorem ends_dot : ∀ c ∈ ([46] : Bytes), ¬ ends c := by intro c h; simp at h; subst h; simp [ends]
theorem ends_e : ∀ c ∈ ([101, 69] : Bytes), ¬ ends c := by intro c h; simp at h; rcases h with rfl | rfl <;> simp [ends]
theorem ends_sign : ∀ c ∈ ([43, 45] : Bytes), ¬ ends c := by intro c h; simp at h; rcases h with rfl | rfl <;> simp [ends]

theorem numInt_same {l l' : Bytes} {a b n : Nat} (h : numInt l a = .ok b) (hb : b ≤ n) (hs : Same l l' n) : numInt l' a = .ok b := by
  unfold numInt at *
  rcases opt_cases (s := l) (l := [48]) (i := a) with e | e
  · rw [if_pos e] at h
    have hlt := (digits_ok h).2
    rw [if_pos (opt_same_out e (by omega) hs ends_zero)]
    exact digits_same h hb hs
  · rw [if_neg (by omega)] at h
    injection h with h; subst h
    rw [if_neg (by rw [opt_same_in e (by omega) hs]; omega)]
theorem numFrac_same {l l' : Bytes} {a b n : Nat} (h : numFrac l a = .ok b) (hb : b ≤ n) (hs : Same l l' n) : numFrac l' a = .ok b := by
  unfold numFrac at *
  rcases opt_cases (s := l) (l := [46]) (i := a) with e | e
  · rw [if_pos e] at h
    injection h with h; subst h
    rw [if_pos (opt_same_out e hb hs ends_dot)]
  · rw [if_neg (by omega)] at h
    have hlt := (digits_ok h).2
    rw [if_neg (by rw [opt_same_in e (by omega) hs]; omega)]
    exact digits_same h hb hs
theorem numExp_same {l l' : Bytes} {a b n : Nat} (h : numExp l a = .ok b) (hb : b ≤ n) (hs : Same l l' n) : numExp l' a = .ok b := by
  unfold numExp at *
  rcases opt_cases (s := l) (l := [101, 69]) (i := a) with e | e
  · rw [if_pos e] at h
    injection h with h; subst h
    rw [if_pos (opt_same_out e hb hs ends_e)]
  · rw [if_neg (by omega)] at h
    have hlt := (digits_ok h).2
    have hle := (opt_le (s := l) (l := [43, 45]) (i := a + 1)).1
    rw [if_neg (by rw [opt_same_in e (by omega) hs]; omega)]
    have e2 : opt l' [43, 45] (a + 1) = opt l [43, 45] (a + 1) := by
      rcases opt_cases (s := l) (l := [43, 45]) (i := a + 1) with g | g
      · rw [g, opt_same_out g (by omega) hs ends_sign]
      · rw [g, opt_same_in g (by omega) hs]
    rw [e2]
    exact digits_same h hb hs

theorem numInt_ok {s : Bytes} {a b : Nat} (h : numInt s a = .ok b) : a < b ∧ b ≤ s.length := by
  unfold numInt at h
  split at h
  · exact ⟨(digits_ok h).2, digits_len h⟩
  · rename_i g
    injection h with h; subst h
    have g : peek s a ∈ ([48] : Bytes) := by
      unfold opt at g; split at g
      · assumption
      · omega
    have : peek s a ≠ 0 := by simp at g; rw [g]; decide
    have := peek_lt this; omega
theorem numFrac_ok {s : Bytes} {a b : Nat} (ha : a ≤ s.length) (h : numFrac s a = .ok b) : a ≤ b ∧ b ≤ s.length := by
  unfold numFrac at h
  split at h
  · injection h with h; subst h; omega
  · have := (digits_ok h).2; have := digits_len h; omega
theorem numExp_ok {s : Bytes} {a b : Nat} (ha : a ≤ s.length) (h : numExp s a = .ok b) : a ≤ b ∧ b ≤ s.length := by
  unfold numExp at h
  split at h
  · injection h with h; subst h; omega
  · have := (digits_ok h).2; have := digits_len h
    have hle := (opt_le (s := s) (l := [43, 45]) (i := a + 1)).1
    omega

theorem number_ok {s : Bytes} {i j : Nat} (h : number s i = .ok j) : i < j ∧ j ≤ s.length ∧ j - i ≤ 40 := by
  unfold number at h
  split at h
  · cases h
  · rename_i a ha
    split at h
    · cases h
    · rename_i b hb
      split at h
      · cases h
      · rename_i c hc
        split at h
        · cases h
        · injection h with h; subst h
          have h0 := (opt_le (s := s) (l := [45]) (i := i)).1
          have h1 := numInt_ok ha
          have h2 := numFrac_ok h1.2 hb
          have h3 := numExp_ok h2.2 hc
          omega

theorem number_same {l l' : Bytes} {n : Nat} (h : number l 0 = .ok n) (hs : Same l l' n) : number l' 0 = .ok n := by
  unfold number at h ⊢
  split at h
  · cases h
  · rename_i a ha
    split at h
    · cases h
    · rename_i b hb
      split at h
      · cases h
      · rename_i c hc
        split at h
        · cases h
        · rename_i hlen
          injection h with h; subst h
          have h0 := (opt_le (s := l) (l := [45]) (i := 0)).1
          have h1 := numInt_ok ha
          have h2 := numFrac_ok h1.2 hb
          have h3 := numExp_ok h2.2 hc
          have e0 : opt l' [45] 0 = opt l [45] 0 := by
            rcases opt_cases (s := l) (l := [45]) (i := 0) with g | g
            · rw [g, opt_same_out g (by omega) hs ends_minus]
            · rw [g, opt_same_in g (by omega) hs]
          rw [e0, numInt_same ha (by omega) hs]
          simp only
          rw [numFrac_same hb (by omega) hs]
          simp only
          rw [numExp_same hc (by omega) hs]
          simp only
          rw [if_neg hlen]

/-! ### A number at a place is a number at the head of what is left. -/
theorem peek_add {s : Bytes} (i k : Nat) : peek s (i + k) = peek (s.drop i) k := by simp [peek, List.getD]
theorem skipD_add {s : Bytes} (i k : Nat) : skipD s (i + k) = i + skipD (s.drop i) k := by simp [skipD]; omega
def sh (i : Nat) : Res Nat → Res Nat
  | .ok j => .ok (i + j)
  | .error (e, p) => .error (e, i + p)
theorem digits_add {s : Bytes} (i k : Nat) : digits s (i + k) = sh i (digits (s.drop i) k) := by
  unfold digits
  rw [skipD_add]
  by_cases h : skipD (s.drop i) k = k
  · rw [if_pos h, if_pos (by omega)]; rfl
  · rw [if_neg h, if_neg (by omega)]; rfl
theorem opt_add {s l : Bytes} (i k : Nat) : opt s l (i + k) = i + opt (s.drop i) l k := by
  unfold opt; rw [peek_add]; split <;> omega
theorem numInt_add {s : Bytes} (i k : Nat) : numInt s (i + k) = sh i (numInt (s.drop i) k) := by
  unfold numInt
  rw [opt_add]
  by_cases h : opt (s.drop i) [48] k = k
  · rw [if_pos h, if_pos (by omega), digits_add]
  · rw [if_neg h, if_neg (by omega)]; rfl
theorem numFrac_add {s : Bytes} (i k : Nat) : numFrac s (i + k) = sh i (numFrac (s.drop i) k) := by
  unfold numFrac
  rw [opt_add]
  by_cases h : opt (s.drop i) [46] k = k
  · rw [if_pos h, if_pos (by omega)]; rfl
  · rw [if_neg h, if_neg (by omega), Nat.add_assoc, digits_add]
theorem numExp_add {s : Bytes} (i k : Nat) : numExp s (i + k) = sh i (numExp (s.drop i) k) := by
  unfold numExp
  rw [opt_add]
  by_cases h : opt (s.drop i) [101, 69] k = k
  · rw [if_pos h, if_pos (by omega)]; rfl
  · rw [if_neg h, if_neg (by omega), Nat.add_assoc, opt_add, digits_add]
theorem number_add {s : Bytes} (i : Nat) : number s i = sh i (number (s.drop i) 0) := by
  unfold number
  have e0 := opt_add (s := s) (l := [45]) i 0
  rw [Nat.add_zero] at e0
  rw [e0, numInt_add]
  cases h1 : numInt (s.drop i) (opt (s.drop i) [45] 0) with
  | error e => obtain ⟨a, b⟩ := e; simp [sh]
  | ok a =>
    simp only [sh]
    rw [numFrac_add]
    cases h2 : numFrac (s.drop i) a with
    | error e => obtain ⟨a, b⟩ := e; simp [sh]
    | ok b =>
      simp only [sh]
      rw [numExp_add]
      cases h3 : numExp (s.drop i) b with
      | error e => obtain ⟨a, b⟩ := e; simp [sh]
      | ok c =>
        simp only [sh]
        by_cases h : c - 0 > 40
        · rw [if_pos h, if_pos (by omega)]; rfl
        · rw [if_neg h, if_neg (by omega)]

/-- The text of a number that was read is a number. -/
theorem isNum_of_number {s : Bytes} {i j : Nat} (h : number s i = .ok j) : isNum ((s.drop i).take (j - i)) := by
  have hk := number_ok h
  rw [number_add] at h
  cases h0 : number (s.drop i) 0 with
  | error e => rw [h0] at h; obtain ⟨a, b⟩ := e; cases h
  | ok n =>
    rw [h0] at h
    injection h with h
    have hn : j - i = n := by omega
    have hl : (List.take n (s.drop i)).length = n := by simp; omega
    unfold isNum
    rw [hn, hl]
    refine number_same h0 ⟨fun k hk => ?_, ?_⟩
    · simp [peek, List.getD, hk]
    · left; rw [peek_end (by omega)]; simp [ends, isDig]
/-- A number, and behind it what may end it, is read. -/
theorem number_of_isNum {s t r : Bytes} {i : Nat} (h : isNum t) (hs : s.drop i = t ++ r) (hr : ends (r.headD 0)) : number s i = .ok (i + t.length) := by
  rw [number_add, hs]
  have : number (t ++ r) 0 = .ok t.length := by
    refine number_same h ⟨fun k hk => ?_, ?_⟩
    · simp [peek, List.getD, List.getElem?_append_left hk]
    · have : peek (t ++ r) t.length = r.headD 0 := by
        cases r <;> simp [peek, List.getD]
      left; rw [this]; exact hr
  rw [this]; rfl
theorem isNum_ne {t : Bytes} (h : isNum t) : t ≠ [] := by
  intro e; subst e
  have := number_ok h; simp at this
theorem isNum_len {t : Bytes} (h : isNum t) : t.length ≤ 40 := by
  have := number_ok h; omega
/-- What a number begins with. -/
theorem isNum_head {t : Bytes} (h : isNum t) : peek t 0 = 45 ∨ isDig (peek t 0) = true := by
  by_cases hm : peek t 0 = 45
  · exact .inl hm
  · right
    unfold isNum number at h
    have e0 : opt t [45] 0 = 0 := by unfold opt; rw [if_neg (by simp [hm])]
    rw [e0] at h
    split at h
    · cases h
    · rename_i a ha
      unfold numInt at ha
      split at ha
      · have hk := digits_ok ha
        exact skipD_dig 0 0 (by omega) (by omega)
      · rename_i g
        have g : peek t 0 ∈ ([48] : Bytes) := by
          unfold opt at g; split at g
          · assumption
          · omega
        simp at g; rw [g]; rfl
theorem number_err {s : Bytes} {i : Nat} {e : Nat × Nat} (hi : i ≤ s.length) (h : number s i = .error e) : e.2 ≤ s.length := by
  have hd : ∀ {k e}, k ≤ s.length → digits s k = .error e → e.2 ≤ s.length := fun hk h => by rw [digits_err h]; exact hk
  have hop : opt s [45] i ≤ s.length := opt_len (by decide) hi
  unfold number at h
  split at h
  · rename_i e' ha
    injection h with h; subst h
    unfold numInt at ha; split at ha
    · exact hd hop ha
    · cases ha
  · rename_i a ha
    have h1 := numInt_ok ha
    split at h
    · rename_i e' hb
      injection h with h; subst h
      unfold numFrac at hb; split at hb
      · cases hb
      · rename_i g
        have := opt_len (s := s) (l := [46]) (i := a) (by decide) h1.2
        have := (opt_le (s := s) (l := [46]) (i := a))
        exact hd (by omega) hb
    · rename_i b hb
      have h2 := numFrac_ok h1.2 hb
      split at h
      · rename_i e' hc
        injection h with h; subst h
        unfold numExp at hc; split at hc
        · cases hc
        · rename_i g
          have := opt_len (s := s) (l := [101, 69]) (i := b) (by decide) h2.2
          have := (opt_le (s := s) (l := [101, 69]) (i := b))
          exact hd (opt_len (by decide) (by omega)) hc
      · split at h
        · injection h with h; subst h; exact hi
        · cases h
end Cx
