/- Blanks laid between the parts of a written value, by a reader of bytes with two marks: what comes out shows the value. -/
import Derived.Test.YtbdmepilmoomeaaDoorCxLaws
namespace Cx

def special (c : UInt8) : Bool := c == 44 || c == 58 || c == 91 || c == 93 || c == 123 || c == 125
/-- A blank ahead of and behind each sign that parts, but inside a text. -/
def spread (bl : Bytes) : Bool → Bool → Bytes → Bytes
  | _, _, [] => []
  | inn, esc, c :: r =>
    if (!inn && special c) = true then bl ++ (c :: (bl ++ spread bl inn esc r))
    else c :: spread bl (if (c == 34 && !esc) = true then !inn else inn) ((if (c == 34 && !esc) = true then !inn else inn) && c == 92 && !esc) r

theorem spread_length {bl : Bytes} (h : bl.length ≤ 1) : ∀ (s : Bytes) (i e : Bool), (spread bl i e s).length ≤ 3 * s.length
  | [], _, _ => by simp [spread]
  | c :: r, i, e => by
    unfold spread
    split
    · have := spread_length h r i e
      simp only [List.length_append, List.length_cons]; omega
    · have := spread_length h r (if (c == 34 && !e) = true then !i else i) ((if (c == 34 && !e) = true then !i else i) && c == 92 && !e)
      simp only [List.length_cons]; omega

/-- A byte that neither parts nor opens a text. -/
def quiet (c : UInt8) : Bool := !special c && c != 34
theorem spread_quiet {bl : Bytes} : ∀ (l r : Bytes), (∀ c ∈ l, quiet c = true) → spread bl false false (l ++ r) = l ++ spread bl false false r
  | [], _, _ => rfl
  | c :: l, r, h => by
    have hc := h c (by simp)
    unfold quiet at hc
    simp only [Bool.and_eq_true, Bool.not_eq_true', bne_iff_ne] at hc
    have h34 : (c == 34) = false := by simpa using hc.2
    have ih := spread_quiet (bl := bl) l r fun x hx => h x (by simp [hx])
    show spread bl false false (c :: (l ++ r)) = c :: (l ++ spread bl false false r)
    conv => lhs; unfold spread
    rw [hc.1, h34, ← ih]
    rfl

theorem spread_special {bl : Bytes} {c : UInt8} (h : special c = true) (r : Bytes) : spread bl false false (c :: r) = bl ++ (c :: (bl ++ spread bl false false r)) := by
  conv => lhs; unfold spread
  rw [h]; rfl

theorem spread_in {bl : Bytes} {c : UInt8} {e : Bool} (r : Bytes) (h : (c == 34 && !e) = false) : spread bl true e (c :: r) = c :: spread bl true (c == 92 && !e) r := by
  conv => lhs; unfold spread
  rw [h]
  simp

theorem spread_escB {bl : Bytes} (c : UInt8) (r : Bytes) : spread bl true false (escB c ++ r) = escB c ++ spread bl true false r := by
  have two : ∀ x : UInt8, spread bl true false (92 :: x :: r) = 92 :: x :: spread bl true false r := by
    intro x
    rw [spread_in (c := 92) _ (by decide), show ((92 : UInt8) == 92 && !false) = true by decide, spread_in (c := x) _ (by simp)]
    simp
  have low : ∀ n : UInt8, n < 16 → lowHex n ≠ 34 ∧ lowHex n ≠ 92 := by
    intro n hn
    have hn' : n.toNat < 16 := by rw [UInt8.lt_iff_toNat_lt] at hn; exact hn
    unfold lowHex
    by_cases h : n < 10
    · rw [if_pos h]
      rw [UInt8.lt_iff_toNat_lt] at h
      constructor <;> (intro e; have := congrArg UInt8.toNat e; rw [UInt8.toNat_add] at this; simp at this h; omega)
    · rw [if_neg h]
      rw [UInt8.lt_iff_toNat_lt] at h
      constructor <;> (intro e; have := congrArg UInt8.toNat e; rw [UInt8.toNat_add] at this; simp at this h; omega)
  by_cases h1 : c = 34
  · subst h1; exact two 34
  by_cases h2 : c = 92
  · subst h2; exact two 92
  by_cases h3 : c = 8
  · subst h3; exact two 98
  by_cases h4 : c = 12
  · subst h4; exact two 102
  by_cases h5 : c = 10
  · subst h5; exact two 110
  by_cases h6 : c = 13
  · subst h6; exact two 114
  by_cases h7 : c = 9
  · subst h7; exact two 116
  have plain : ∀ (x : UInt8) (q : Bytes), x ≠ 34 → x ≠ 92 → spread bl true false (x :: q) = x :: spread bl true false q := by
    intro x q hx hy
    rw [spread_in (c := x) _ (by simp [hx]), show (x == 92 && !false) = false by simp [hy]]
  unfold escB
  rw [if_neg h1, if_neg h2, if_neg h3, if_neg h4, if_neg h5, if_neg h6, if_neg h7]
  by_cases h8 : c < 32
  · rw [if_pos h8]
    have hc : c.toNat < 32 := by rw [UInt8.lt_iff_toNat_lt] at h8; exact h8
    have g1 : c >>> 4 < 16 := by
      rw [UInt8.lt_iff_toNat_lt, UInt8.toNat_shiftRight]
      simp [Nat.shiftRight_eq_div_pow]; omega
    have g2 : c &&& 15 < 16 := by
      rw [UInt8.lt_iff_toNat_lt, UInt8.toNat_and]
      have : c.toNat &&& (15 : UInt8).toNat ≤ (15 : UInt8).toNat := Nat.and_le_right
      simp at this ⊢; omega
    have l1 := low _ g1; have l2 := low _ g2
    show spread bl true false (92 :: 117 :: 48 :: 48 :: lowHex (c >>> 4) :: lowHex (c &&& 15) :: r) = 92 :: 117 :: 48 :: 48 :: lowHex (c >>> 4) :: lowHex (c &&& 15) :: spread bl true false r
    rw [spread_in (c := 92) _ (by decide), show ((92 : UInt8) == 92 && !false) = true by decide, spread_in (c := 117) _ (by decide), show ((117 : UInt8) == 92 && !true) = false by decide,
      plain 48 _ (by decide) (by decide), plain 48 _ (by decide) (by decide), plain _ _ l1.1 l1.2, plain _ _ l2.1 l2.2]
  · rw [if_neg h8]
    exact plain c r h1 h2
theorem spread_esc {bl : Bytes} : ∀ (t r : Bytes), spread bl true false (esc t ++ r) = esc t ++ spread bl true false r
  | [], _ => rfl
  | c :: t, r => by
    have e : esc (c :: t) = escB c ++ esc t := rfl
    rw [e, List.append_assoc, spread_escB, spread_esc t r, List.append_assoc]
theorem spread_text {bl : Bytes} (t r : Bytes) : spread bl false false (jtext t ++ r) = jtext t ++ spread bl false false r := by
  have e : jtext t ++ r = 34 :: (esc t ++ (34 :: r)) := by simp [jtext]
  rw [e]
  conv => lhs; unfold spread
  rw [if_neg (by decide), show ((34 : UInt8) == 34 && !false) = true by decide]
  simp only [if_true, Bool.not_false]
  rw [show ((true : Bool) && (34 : UInt8) == 92 && true) = false by decide, spread_esc]
  conv => lhs; rhs; rhs; unfold spread
  rw [if_neg (by decide), show ((34 : UInt8) == 34 && !false) = true by decide]
  simp [jtext]

/-! ### The bytes of a number -/
def numB (c : UInt8) : Prop := isDig c = true ∨ c ∈ ([45, 46, 101, 69, 43] : Bytes)
theorem digits_all {s : Bytes} {a b : Nat} (h : digits s a = .ok b) : ∀ k, a ≤ k → k < b → numB (peek s k) := by
  have := (digits_ok h).1
  subst this
  exact fun k h1 h2 => .inl (skipD_dig a k h1 h2)
theorem opt_all {s l : Bytes} {a : Nat} (hl : ∀ c ∈ l, numB c) : ∀ k, a ≤ k → k < opt s l a → numB (peek s k) := by
  intro k h1 h2
  unfold opt at h2
  split at h2
  · rename_i h
    have : k = a := by omega
    subst this; exact hl _ h
  · omega
theorem opt_ne {s l : Bytes} {a : Nat} (h : ¬ opt s l a = a) : peek s a ∈ l := by
  unfold opt at h
  split at h
  · assumption
  · exact absurd rfl h
theorem number_all {s : Bytes} {i j : Nat} (h : number s i = .ok j) : ∀ k, i ≤ k → k < j → numB (peek s k) := by
  unfold number at h
  split at h
  · cases h
  · rename_i a ha
    split at h
    · cases h
    · rename_i b hb
      split at h
      · cases h
      · rename_i c hc
        split at h
        · cases h
        · injection h with h; subst h
          intro k h1 h2
          have m1 := opt_all (s := s) (l := [45]) (a := i) (by intro c hc; simp at hc; subst hc; exact .inr (by simp))
          have m2 : ∀ k, opt s [45] i ≤ k → k < a → numB (peek s k) := by
            unfold numInt at ha
            split at ha
            · exact digits_all ha
            · injection ha with ha; subst ha
              intro k g1 g2
              have hk : k = opt s [45] i := by omega
              subst hk
              rename_i hne
              have hm := opt_ne hne
              simp at hm
              rw [hm]; exact .inl rfl
          have m3 : ∀ k, a ≤ k → k < b → numB (peek s k) := by
            unfold numFrac at hb
            split at hb
            · injection hb with hb; intro k g1 g2; omega
            · rename_i hne
              intro k g1 g2
              rcases Nat.lt_or_ge k (a + 1) with g | g
              · have hk : k = a := by omega
                subst hk
                have hm := opt_ne hne
                exact .inr (by simp at hm; rw [hm]; simp)
              · exact digits_all hb k g g2
          have m4 : ∀ k, b ≤ k → k < c → numB (peek s k) := by
            unfold numExp at hc
            split at hc
            · injection hc with hc; intro k g1 g2; omega
            · rename_i hne
              intro k g1 g2
              rcases Nat.lt_or_ge k (b + 1) with g | g
              · have hk : k = b := by omega
                subst hk
                have hm := opt_ne hne
                exact .inr (by simp at hm; rcases hm with hm | hm <;> rw [hm] <;> simp)
              · rcases Nat.lt_or_ge k (opt s [43, 45] (b + 1)) with g' | g'
                · exact opt_all (by intro c hc; simp at hc; rcases hc with rfl | rfl <;> exact .inr (by simp)) k g g'
                · exact digits_all hc k g' g2
          rcases Nat.lt_or_ge k (opt s [45] i) with g | g
          · exact m1 k h1 g
          · rcases Nat.lt_or_ge k a with g' | g'
            · exact m2 k g g'
            · rcases Nat.lt_or_ge k b with g'' | g''
              · exact m3 k g' g''
              · exact m4 k g'' h2
theorem isNum_all {t : Bytes} (h : isNum t) : ∀ c ∈ t, numB c := by
  intro c hc
  obtain ⟨k, hk⟩ := List.getElem?_of_mem hc
  have hlt := (List.getElem?_eq_some_iff.1 hk).1
  have := number_all h k (Nat.zero_le _) hlt
  unfold peek at this
  rw [show t.getD k 0 = c by simp [List.getD, hk]] at this
  exact this
theorem numB_quiet {c : UInt8} (h : numB c) : quiet c = true := by
  rcases h with h | h
  · unfold isDig at h
    simp only [Bool.and_eq_true, decide_eq_true_eq] at h
    rw [UInt8.le_iff_toNat_le, UInt8.le_iff_toNat_le] at h
    have ne : ∀ k : UInt8, k.toNat < 48 ∨ 57 < k.toNat → (c == k) = false := by
      intro k hk
      rw [beq_eq_false_iff_ne]
      intro e; subst e; simp at h; omega
    unfold quiet special
    rw [ne 44 (by decide), ne 58 (by decide), ne 91 (by decide), ne 93 (by decide), ne 123 (by decide), ne 125 (by decide)]
    have := ne 34 (by decide)
    simp at this ⊢; exact this
  · simp only [List.mem_cons, List.not_mem_nil, or_false] at h
    rcases h with rfl | rfl | rfl | rfl | rfl <;> decide

mutual
/-- What comes out shows the value, with blanks ahead and behind. -/
theorem spread_shows {bl : Bytes} (hb : Blanks bl) : ∀ (v : J) (d : Nat), right d v = true → ∀ r, ∃ w x w', spread bl false false (pr v ++ r) = w ++ (x ++ (w' ++ spread bl false false r)) ∧ Blanks w ∧ Blanks w' ∧ Shows v x
  | .mk k is t ns ks, d, hr, r => by
    have leaf : ∀ (l : Bytes), pr (.mk k is t ns ks) = l → (∀ c ∈ l, quiet c = true) → ¬ (k = 5 ∨ k = 6) →
        ∃ w x w', spread bl false false (pr (.mk k is t ns ks) ++ r) = w ++ (x ++ (w' ++ spread bl false false r)) ∧ Blanks w ∧ Blanks w' ∧ Shows (.mk k is t ns ks) x := by
      intro l hl hq hk
      refine ⟨[], l, [], ?_, Blanks.nil, Blanks.nil, ?_⟩
      · rw [hl, spread_quiet l r hq]; simp
      · unfold Shows; rw [if_neg hk, hl]
    by_cases h1 : k = 1
    · subst h1
      exact leaf [110, 117, 108, 108] (by unfold pr; simp) (by decide) (by decide)
    by_cases h2 : k = 2
    · subst h2
      cases is
      · exact leaf [102, 97, 108, 115, 101] (by unfold pr; simp) (by decide) (by decide)
      · exact leaf [116, 114, 117, 101] (by unfold pr; simp) (by decide) (by decide)
    by_cases h3 : k = 3
    · subst h3
      unfold right at hr
      rw [if_neg (by decide), if_neg (by decide), if_pos rfl] at hr
      simp only [Bool.and_eq_true, decide_eq_true_eq] at hr
      exact leaf t (by unfold pr; simp) (fun c hc => numB_quiet (isNum_all hr.2 c hc)) (by decide)
    by_cases h4 : k = 4
    · subst h4
      refine ⟨[], jtext t, [], ?_, Blanks.nil, Blanks.nil, ?_⟩
      · rw [show pr (.mk 4 is t ns ks) = jtext t by unfold pr; simp, spread_text]; simp
      · unfold Shows; rw [if_neg (by decide)]; unfold pr; simp
    by_cases h5 : k = 5
    · subst h5
      have hrk : rightK (d + 1) ks = true := by
        unfold right at hr
        rw [if_neg (by decide), if_neg (by decide), if_neg (by decide), if_neg (by decide), if_pos rfl] at hr
        simp only [Bool.and_eq_true] at hr
        exact hr.2
      obtain ⟨y, hy, hs⟩ := spreadK_shows hb ks false true ns (d + 1) hrk (93 :: r)
      refine ⟨bl, 91 :: ((bl ++ (y ++ bl)) ++ [93]), bl, ?_, hb, hb, ?_⟩
      · have e : pr (.mk 5 is t ns ks) ++ r = 91 :: (prK false true ns ks ++ 93 :: r) := by unfold pr; simp
        rw [e, spread_special (by decide), hy, spread_special (by decide)]
        simp
      · unfold Shows
        rw [if_pos (.inl rfl)]
        exact ⟨bl ++ (y ++ bl), rfl, hs bl bl hb hb⟩
    by_cases h6 : k = 6
    · subst h6
      have hrk : rightK (d + 1) ks = true := by
        unfold right at hr
        rw [if_neg (by decide), if_neg (by decide), if_neg (by decide), if_neg (by decide), if_neg (by decide), if_pos rfl] at hr
        simp only [Bool.and_eq_true] at hr
        exact hr.2
      obtain ⟨y, hy, hs⟩ := spreadK_shows hb ks true true ns (d + 1) hrk (125 :: r)
      refine ⟨bl, 123 :: ((bl ++ (y ++ bl)) ++ [125]), bl, ?_, hb, hb, ?_⟩
      · have e : pr (.mk 6 is t ns ks) ++ r = 123 :: (prK true true ns ks ++ 125 :: r) := by unfold pr; simp
        rw [e, spread_special (by decide), hy, spread_special (by decide)]
        simp
      · unfold Shows
        rw [if_pos (.inr rfl)]
        exact ⟨bl ++ (y ++ bl), rfl, hs bl bl hb hb⟩
    · unfold right at hr
      rw [if_neg h1, if_neg h2, if_neg h3, if_neg h4, if_neg h5, if_neg h6] at hr
      cases hr
theorem spreadK_shows {bl : Bytes} (hb : Blanks bl) : ∀ (ks : List J) (o f : Bool) (ns : List Bytes) (d : Nat), rightK d ks = true → ∀ r, ∃ y, spread bl false false (prK o f ns ks ++ r) = y ++ spread bl false false r ∧ ∀ p q, Blanks p → Blanks q → ShowsK o f ns ks (p ++ (y ++ q))
  | [], o, f, ns, d, _, r => by
    refine ⟨[], ?_, fun p q hp hq => ?_⟩
    · unfold prK; rfl
    · unfold ShowsK; exact hp.append hq
  | k :: ks, o, f, ns, d, hr, r => by
    unfold rightK at hr
    simp only [Bool.and_eq_true] at hr
    obtain ⟨y, hy, hs⟩ := spreadK_shows hb ks o false ns.tail d hr.2 r
    obtain ⟨w, x, w', hx, hw, hw', hsx⟩ := spread_shows hb k d hr.1 (prK o false ns.tail ks ++ r)
    have hk : ∀ q : Bytes, spread bl false false ((if f = true then [] else [44]) ++ q) = (if f = true then [] else bl ++ 44 :: bl) ++ spread bl false false q := by
      intro q
      cases f
      · simp only [Bool.false_eq_true, if_false]
        show spread bl false false (44 :: q) = _
        rw [spread_special (by decide)]; simp
      · simp
    have ho : ∀ q : Bytes, spread bl false false ((if o = true then jtext (ns.headD []) ++ [58] else []) ++ q) = (if o = true then jtext (ns.headD []) ++ (bl ++ 58 :: bl) else []) ++ spread bl false false q := by
      intro q
      cases o
      · simp
      · simp only [if_true]
        rw [List.append_assoc, spread_text]
        show jtext _ ++ spread bl false false (58 :: q) = _
        rw [spread_special (by decide)]; simp
    refine ⟨(if f = true then [] else bl ++ 44 :: bl) ++ ((if o = true then jtext (ns.headD []) ++ (bl ++ 58 :: bl) else []) ++ (w ++ (x ++ (w' ++ y)))), ?_, fun p q hp hq => ?_⟩
    · unfold prK
      rw [List.append_assoc, hk, List.append_assoc, ho, List.append_assoc, hx, hy]
      simp
    · unfold ShowsK
      refine ⟨if f = true then p else p ++ bl, bl, bl, if o = true then bl ++ w else w, x, w' ++ (y ++ q), ?_, hb, hb, ?_, ?_, hsx, hs w' q hw' hq⟩
      · cases f
        · exact hp.append hb
        · exact hp
      · cases o
        · exact hw
        · exact hb.append hw
      · cases f <;> cases o <;> simp
end

/-- The law on blanks, of the model. -/
theorem parse_spread {v : J} {bl : Bytes} (hb : Blanks bl) (hl : bl.length ≤ 1) (hr : Right v = true) (hp : (pr v).length ≤ 20000) : parse (bl ++ (spread bl false false (pr v) ++ bl)) = .ok v := by
  have hr0 : right 0 v = true := by
    unfold Right at hr
    simp only [Bool.and_eq_true] at hr
    exact hr.2
  obtain ⟨w, x, w', hx, hw, hw', hs⟩ := spread_shows hb v 0 hr0 []
  have h3 := spread_length hl (pr v) false false
  rw [List.append_nil] at hx
  rw [show spread bl false false [] = [] from rfl, List.append_nil] at hx
  have e : bl ++ (spread bl false false (pr v) ++ bl) = (bl ++ w) ++ (x ++ (w' ++ bl)) := by rw [hx]; simp
  have hlen : ((bl ++ w) ++ (x ++ (w' ++ bl))).length ≤ 100000 := by
    rw [← e]; simp only [List.length_append]; omega
  rw [e]
  exact parse_shows hr hs (hb.append hw) (hw'.append hb) hlen
end Cx
