/- Plain facts on texts: what is read of a text is valid; a valid text, written, is read as it was. -/
import Derived.Test.YthdmdafhldicmaaGreatDoorCxNum
namespace Cx

/-! ### Runes -/
theorem cont_len {l : Bytes} {k : Nat} (h : cont (l.getD k 0) = true) : k < l.length := by
  rcases Nat.lt_or_ge k l.length with g | g
  · exact g
  · rw [List.getD_eq_getElem?_getD, List.getElem?_eq_none g] at h; cases h
theorem cont_ge {c : UInt8} (h : cont c = true) : 128 ≤ c := by simp [cont] at h; exact h.1
/-- What a rune's length says, by cases. -/
theorem runeLen_cases (a : UInt8) (l : Bytes) :
    (a < 128 ∧ runeLen (a :: l) = 1) ∨ (¬ a < 128 ∧ (194 ≤ a ∧ a ≤ 223) ∧ cont (l.getD 0 0) = true ∧ runeLen (a :: l) = 2) ∨
    (¬ a < 128 ∧ ¬ (194 ≤ a ∧ a ≤ 223) ∧ (224 ≤ a ∧ a ≤ 239) ∧ (cont (l.getD 0 0) = true ∧ cont (l.getD 1 0) = true ∧ (a = 224 → 160 ≤ l.getD 0 0) ∧ (a = 237 → l.getD 0 0 ≤ 159)) ∧ runeLen (a :: l) = 3) ∨
    (¬ a < 128 ∧ ¬ (194 ≤ a ∧ a ≤ 223) ∧ ¬ (224 ≤ a ∧ a ≤ 239) ∧ (240 ≤ a ∧ a ≤ 244) ∧ (cont (l.getD 0 0) = true ∧ cont (l.getD 1 0) = true ∧ cont (l.getD 2 0) = true ∧ (a = 240 → 144 ≤ l.getD 0 0) ∧ (a = 244 → l.getD 0 0 ≤ 143)) ∧ runeLen (a :: l) = 4) ∨
    runeLen (a :: l) = 0 := by
  show _ ∨ _ ∨ _ ∨ _ ∨ _
  simp only [runeLen]
  unfold runeLenC
  by_cases h1 : a < 128
  · exact .inl ⟨h1, if_pos h1⟩
  · rw [if_neg h1]
    by_cases h2 : 194 ≤ a ∧ a ≤ 223
    · rw [if_pos h2]
      by_cases h : cont (l.getD 0 0) = true
      · exact .inr (.inl ⟨h1, h2, h, if_pos h⟩)
      · exact .inr (.inr (.inr (.inr (if_neg h))))
    · rw [if_neg h2]
      by_cases h3 : 224 ≤ a ∧ a ≤ 239
      · rw [if_pos h3]
        by_cases h : cont (l.getD 0 0) = true ∧ cont (l.getD 1 0) = true ∧ (a = 224 → 160 ≤ l.getD 0 0) ∧ (a = 237 → l.getD 0 0 ≤ 159)
        · exact .inr (.inr (.inl ⟨h1, h2, h3, h, if_pos h⟩))
        · exact .inr (.inr (.inr (.inr (if_neg h))))
      · rw [if_neg h3]
        by_cases h4 : 240 ≤ a ∧ a ≤ 244
        · rw [if_pos h4]
          by_cases h : cont (l.getD 0 0) = true ∧ cont (l.getD 1 0) = true ∧ cont (l.getD 2 0) = true ∧ (a = 240 → 144 ≤ l.getD 0 0) ∧ (a = 244 → l.getD 0 0 ≤ 143)
          · exact .inr (.inr (.inr (.inl ⟨h1, h2, h3, h4, h, if_pos h⟩)))
          · exact .inr (.inr (.inr (.inr (if_neg h))))
        · rw [if_neg h4]; exact .inr (.inr (.inr (.inr rfl)))
theorem runeLen_le (l : Bytes) : runeLen l ≤ l.length ∧ runeLen l ≤ 4 := by
  cases l with
  | nil => simp [runeLen]
  | cons a l =>
    rcases runeLen_cases a l with ⟨_, e⟩ | ⟨_, _, h, e⟩ | ⟨_, _, _, h, e⟩ | ⟨_, _, _, _, h, e⟩ | e <;> rw [e] <;> simp only [List.length_cons]
    · omega
    · have := cont_len h; omega
    · have := cont_len h.2.1; omega
    · have := cont_len h.2.2.1; omega
    · omega
theorem runeLen_take (l r : Bytes) (h : runeLen l ≠ 0) : runeLen (l.take (runeLen l) ++ r) = runeLen l := by
  cases l with
  | nil => exact absurd rfl h
  | cons a l =>
    have gd : ∀ m k, k < m → m ≤ l.length → (l.take m ++ r).getD k 0 = l.getD k 0 := fun m k hk hm => by
      simp only [List.getD_eq_getElem?_getD]
      rw [List.getElem?_append_left (by simp; omega), List.getElem?_take, if_pos hk]
    rcases runeLen_cases a l with ⟨h1, e⟩ | ⟨h1, h2, hh, e⟩ | ⟨h1, h2, h3, hh, e⟩ | ⟨h1, h2, h3, h4, hh, e⟩ | e
    · rw [e]; show runeLenC a _ = 1; unfold runeLenC; rw [if_pos h1]
    · have := cont_len hh
      rw [e]; show runeLenC a (l.take 1 ++ r) = 2; unfold runeLenC; rw [if_neg h1, if_pos h2, gd 1 0 (by omega) (by omega), if_pos hh]
    · have := cont_len hh.2.1
      rw [e]; show runeLenC a (l.take 2 ++ r) = 3; unfold runeLenC; rw [if_neg h1, if_neg h2, if_pos h3, gd 2 0 (by omega) (by omega), gd 2 1 (by omega) (by omega), if_pos hh]
    · have := cont_len hh.2.2.1
      rw [e]; show runeLenC a (l.take 3 ++ r) = 4; unfold runeLenC; rw [if_neg h1, if_neg h2, if_neg h3, if_pos h4, gd 3 0 (by omega) (by omega), gd 3 1 (by omega) (by omega), gd 3 2 (by omega) (by omega), if_pos hh]
    · exact absurd e h
/-- Each byte of a rune of more than one is at least 128. -/
theorem runeLen_high (l : Bytes) (h : runeLen l ≠ 0) (h1 : ∀ c, l.head? = some c → ¬ c < 128) : ∀ c ∈ l.take (runeLen l), 128 ≤ c := by
  cases l with
  | nil => exact absurd rfl h
  | cons a l =>
    have ha : ¬ a < 128 := h1 a rfl
    have ha' : 128 ≤ a := UInt8.not_lt.mp ha
    have el : ∀ m, (∀ k, k < m → cont (l.getD k 0) = true) → ∀ c ∈ l.take m, 128 ≤ c := fun m hm c hc => by
      obtain ⟨k, hk, hk'⟩ := List.mem_iff_getElem.1 hc
      have hk2 : k < m ∧ k < l.length := by simp at hk; omega
      have := cont_ge (hm k hk2.1)
      rw [← hk', List.getElem_take]
      rw [List.getD_eq_getElem?_getD, List.getElem?_eq_getElem hk2.2] at this
      exact this
    rcases runeLen_cases a l with ⟨h1, e⟩ | ⟨h1, h2, hh, e⟩ | ⟨h1, h2, h3, hh, e⟩ | ⟨h1, h2, h3, h4, hh, e⟩ | e
    · exact absurd h1 ha
    · rw [e]; intro c hc; rcases List.mem_cons.1 hc with rfl | hc
      · exact ha'
      · exact el 1 (fun k hk => by have : k = 0 := by omega
                                   subst this; exact hh) c hc
    · rw [e]; intro c hc; rcases List.mem_cons.1 hc with rfl | hc
      · exact ha'
      · exact el 2 (fun k hk => by match k, hk with
                                   | 0, _ => exact hh.1
                                   | 1, _ => exact hh.2.1) c hc
    · rw [e]; intro c hc; rcases List.mem_cons.1 hc with rfl | hc
      · exact ha'
      · exact el 3 (fun k hk => by match k, hk with
                                   | 0, _ => exact hh.1
                                   | 1, _ => exact hh.2.1
                                   | 2, _ => exact hh.2.2.1) c hc
    · exact absurd e h

/-! ### Valid texts -/
theorem validN_more : ∀ (n : Nat) (l : Bytes) (m : Nat), l.length ≤ n → l.length ≤ m → validN n l = validN m l
  | 0, l, m, h, _ => by
    have : l = [] := List.length_eq_zero_iff.1 (by omega)
    subst this; cases m <;> rfl
  | n + 1, [], m, _, _ => by cases m <;> rfl
  | n + 1, a :: l, 0, _, h => by simp at h
  | n + 1, a :: l, m + 1, h, h' => by
    simp only [validN]
    by_cases hz : runeLen (a :: l) = 0
    · simp [hz]
    · have hlen : ((a :: l).drop (runeLen (a :: l))).length ≤ n ∧ ((a :: l).drop (runeLen (a :: l))).length ≤ m := by
        rw [List.length_drop]; omega
      rw [validN_more n _ m hlen.1 hlen.2]
theorem valid_nil : valid [] = true := rfl
theorem valid_cons {l : Bytes} (hl : l ≠ []) : valid l = (decide (runeLen l ≠ 0) && valid (l.drop (runeLen l))) := by
  cases l with
  | nil => exact absurd rfl hl
  | cons a l =>
    unfold valid
    simp only [List.length_cons, validN]
    by_cases hz : runeLen (a :: l) = 0
    · simp [hz]
    · have : ((a :: l).drop (runeLen (a :: l))).length ≤ l.length := by rw [List.length_drop, List.length_cons]; omega
      rw [validN_more l.length _ _ this (Nat.le_refl _)]
theorem valid_piece {l r : Bytes} (h : runeLen l ≠ 0) (hr : valid r = true) : valid (l.take (runeLen l) ++ r) = true := by
  have hk := runeLen_le l
  have hne : l.take (runeLen l) ++ r ≠ [] := by
    cases l with
    | nil => exact absurd rfl h
    | cons a l => cases hn : runeLen (a :: l) with
      | zero => exact absurd hn h
      | succ n => simp
  rw [valid_cons hne, runeLen_take l r h]
  have : (l.take (runeLen l) ++ r).drop (runeLen l) = r := by
    rw [List.drop_append, List.drop_of_length_le (by simp; omega)]
    simp [Nat.min_eq_left hk.1]
  rw [this, hr]; simp [h]
/-- By runes. -/
theorem valid_induct {P : Bytes → Prop} (h0 : P []) (h1 : ∀ l : Bytes, runeLen l ≠ 0 → valid (l.drop (runeLen l)) = true → P (l.drop (runeLen l)) → P l) : ∀ l, valid l = true → P l := by
  intro l
  generalize hn : l.length = n
  induction n using Nat.strongRecOn generalizing l with
  | _ n ih =>
    intro hv
    cases l with
    | nil => exact h0
    | cons a l =>
      rw [valid_cons (by simp)] at hv
      simp only [Bool.and_eq_true, decide_eq_true_eq] at hv
      refine h1 _ hv.1 hv.2 (ih _ ?_ _ rfl hv.2)
      rw [List.length_drop]; simp at hn ⊢; omega
theorem valid_append {a b : Bytes} (ha : valid a = true) (hb : valid b = true) : valid (a ++ b) = true := by
  refine valid_induct (P := fun a => valid (a ++ b) = true) (by simpa using hb) ?_ a ha
  intro l h hv ih
  have e : l ++ b = l.take (runeLen l) ++ (l.drop (runeLen l) ++ b) := by rw [← List.append_assoc, List.take_append_drop]
  show valid (l ++ b) = true
  rw [e]
  exact valid_piece h ih
theorem valid_one {c : UInt8} (h : c < 128) : valid [c] = true := by
  rw [valid_cons (by simp)]; simp [runeLen, runeLenC, h, valid_nil]
/-- Of a text of which a part ahead is valid, the rest tells. -/
theorem valid_append_iff {a b : Bytes} (ha : valid a = true) : valid (a ++ b) = valid b := by
  refine valid_induct (P := fun a => valid (a ++ b) = valid b) (by simp) ?_ a ha
  intro l h hv ih
  have hk := runeLen_le l
  have e : l ++ b = l.take (runeLen l) ++ (l.drop (runeLen l) ++ b) := by rw [← List.append_assoc, List.take_append_drop]
  have hne : l ++ b ≠ [] := by
    cases l with
    | nil => exact absurd rfl h
    | cons a l => simp
  show valid (l ++ b) = valid b
  have hr : runeLen (l ++ b) = runeLen l := by rw [e]; exact runeLen_take l _ h
  rw [valid_cons hne, hr, e, List.drop_append, List.drop_of_length_le (by simp; omega)]
  simp [Nat.min_eq_left hk.1, h, ih]

/-! ### Escapes -/
theorem hexv_lt {c : UInt8} {n : Nat} (h : hexv c = some n) : n < 16 := by
  unfold hexv at h
  split at h
  · injection h with h; omega
  · split at h
    · injection h with h; omega
    · split at h
      · injection h with h; omega
      · cases h
theorem hex4_lt {l : Bytes} {v : Nat} (h : hex4 l = some v) : v < 65536 := by
  unfold hex4 at h
  split at h
  · split at h
    · rename_i a b c d ha hb hc hd
      injection h with h
      have := hexv_lt ha; have := hexv_lt hb; have := hexv_lt hc; have := hexv_lt hd
      omega
    · cases h
  · cases h
theorem unit_ok {s : Bytes} {i v : Nat} (h : unit s i = some v) : i + 6 ≤ s.length ∧ v < 65536 := by
  unfold unit at h
  split at h
  · rename_i a b c d l hd
    refine ⟨?_, hex4_lt h⟩
    have := congrArg List.length hd
    simp at this; omega
  · cases h
theorem simple_lt {c x : UInt8} (h : simple c = some x) : x < 128 := by
  unfold simple at h
  repeat' (split at h)
  all_goals first | (injection h with h; subst h; decide) | cases h
theorem valid_enc {v : Nat} (h : v < 0x110000) (hs : ¬ (0xD800 ≤ v ∧ v < 0xE000)) : valid (enc v) = true := by
  have u : ∀ n : Nat, n < 256 → (UInt8.ofNat n).toNat = n := fun n hn => by simp; omega
  have lt : ∀ a b : UInt8, (a < b) = (a.toNat < b.toNat) := fun a b => by rw [UInt8.lt_iff_toNat_lt]
  have le : ∀ a b : UInt8, (a ≤ b) = (a.toNat ≤ b.toNat) := fun a b => by rw [UInt8.le_iff_toNat_le]
  unfold enc
  split
  · refine valid_one ?_
    rw [lt, u _ (by omega)]; simpa using by assumption
  · have cn : ∀ n : Nat, n < 64 → cont (UInt8.ofNat (0x80 + n)) = true := fun n hn => by
      simp only [cont, Bool.and_eq_true, decide_eq_true_eq, le, u (0x80 + n) (by omega)]
      constructor <;> simp <;> omega
    split
    · rw [valid_cons (by simp)]
      have e : runeLen [UInt8.ofNat (0xC0 + v / 64), UInt8.ofNat (0x80 + v % 64)] = 2 := by
        simp only [runeLen]; unfold runeLenC
        rw [if_neg (by rw [lt, u _ (by omega)]; simp; omega), if_pos ⟨by rw [le, u _ (by omega)]; simp only [UInt8.reduceToNat]; omega, by rw [le, u _ (by omega)]; simp only [UInt8.reduceToNat]; omega⟩]
        exact if_pos (cn _ (Nat.mod_lt _ (by decide : 64 > 0)))
      rw [e]; rfl
    · split
      · rw [valid_cons (by simp)]
        have e : runeLen [UInt8.ofNat (0xE0 + v / 4096), UInt8.ofNat (0x80 + v / 64 % 64), UInt8.ofNat (0x80 + v % 64)] = 3 := by
          simp only [runeLen]; unfold runeLenC
          rw [if_neg (by rw [lt, u _ (by omega)]; simp; omega), if_neg (by rw [le, le, u _ (by omega)]; simp; omega),
            if_pos ⟨by rw [le, u _ (by omega)]; simp only [UInt8.reduceToNat]; omega, by rw [le, u _ (by omega)]; simp only [UInt8.reduceToNat]; omega⟩]
          refine if_pos ⟨cn _ (Nat.mod_lt _ (by decide : 64 > 0)), cn _ (Nat.mod_lt _ (by decide : 64 > 0)), fun e => ?_, fun e => ?_⟩
          · have := congrArg UInt8.toNat e; rw [u _ (by omega)] at this; simp at this
            show 160 ≤ UInt8.ofNat (0x80 + v / 64 % 64)
            rw [le, u _ (by omega)]; simp only [UInt8.reduceToNat]; omega
          · have := congrArg UInt8.toNat e; rw [u _ (by omega)] at this; simp at this
            show UInt8.ofNat (0x80 + v / 64 % 64) ≤ 159
            rw [le, u _ (by omega)]; simp only [UInt8.reduceToNat]; omega
        rw [e]; rfl
      · rw [valid_cons (by simp)]
        have e : runeLen [UInt8.ofNat (0xF0 + v / 262144), UInt8.ofNat (0x80 + v / 4096 % 64), UInt8.ofNat (0x80 + v / 64 % 64), UInt8.ofNat (0x80 + v % 64)] = 4 := by
          simp only [runeLen]; unfold runeLenC
          rw [if_neg (by rw [lt, u _ (by omega)]; simp; omega), if_neg (by rw [le, le, u _ (by omega)]; simp; omega), if_neg (by rw [le, le, u _ (by omega)]; simp; omega),
            if_pos ⟨by rw [le, u _ (by omega)]; simp only [UInt8.reduceToNat]; omega, by rw [le, u _ (by omega)]; simp only [UInt8.reduceToNat]; omega⟩]
          refine if_pos ⟨cn _ (Nat.mod_lt _ (by decide : 64 > 0)), cn _ (Nat.mod_lt _ (by decide : 64 > 0)), cn _ (Nat.mod_lt _ (by decide : 64 > 0)), fun e => ?_, fun e => ?_⟩
          · have := congrArg UInt8.toNat e; rw [u _ (by omega)] at this; simp at this
            show 144 ≤ UInt8.ofNat (0x80 + v / 4096 % 64)
            rw [le, u _ (by omega)]; simp only [UInt8.reduceToNat]; omega
          · have := congrArg UInt8.toNat e; rw [u _ (by omega)] at this; simp at this
            show UInt8.ofNat (0x80 + v / 4096 % 64) ≤ 143
            rw [le, u _ (by omega)]; simp only [UInt8.reduceToNat]; omega
        rw [e]; rfl
theorem escape_ok {s b : Bytes} {i j : Nat} (h : escape s i = .ok (b, j)) : i < j ∧ j ≤ s.length ∧ valid b = true := by
  unfold escape at h
  split at h
  · rename_i x hx
    injection h with h; injection h with h1 h2; subst h1; subst h2
    cases hc : s[i + 1]? with
    | none => rw [hc] at hx; cases hx
    | some c =>
      rw [hc] at hx
      have : i + 1 < s.length := by
        rcases Nat.lt_or_ge (i + 1) s.length with g | g
        · exact g
        · rw [List.getElem?_eq_none g] at hc; cases hc
      exact ⟨by omega, by omega, valid_one (simple_lt hx)⟩
  · split at h
    · cases h
    · rename_i v hv
      have hu := unit_ok hv
      split at h
      · split at h
        · cases h
        · rename_i low hlow
          have hw := unit_ok hlow
          split at h
          · injection h with h; injection h with h1 h2; subst h1; subst h2
            exact ⟨by omega, by omega, valid_enc (by omega) (by omega)⟩
          · cases h
      · split at h
        · cases h
        · injection h with h; injection h with h1 h2; subst h1; subst h2
          exact ⟨by omega, by omega, valid_enc (by omega) (by omega)⟩
theorem escape_err {s : Bytes} {i : Nat} {e : Nat × Nat} (h : escape s i = .error e) : e = (7, i) := by
  unfold escape at h
  repeat' (split at h)
  all_goals first | (injection h with h; exact h.symm) | cases h

/-! ### Texts -/
theorem textN_succ (s : Bytes) (n i : Nat) (acc : Bytes) : textN s (n + 1) i acc =
    (if peek s i < 32 then .error (7, i)
    else if peek s i = 34 then .ok (acc, i + 1)
    else if peek s i = 92 then
      match escape s i with
      | .error e => .error e
      | .ok (b, j) => textN s n j (acc ++ b)
    else if runeLen (s.drop i) = 0 then .error (17, i)
    else textN s n (i + runeLen (s.drop i)) (acc ++ (s.drop i).take (runeLen (s.drop i)))) := rfl
theorem textN_ok (s : Bytes) : ∀ (n i : Nat) (acc b : Bytes) (j : Nat), i ≤ s.length → textN s n i acc = .ok (b, j) → valid acc = true → i < j ∧ j ≤ s.length ∧ valid b = true
  | 0, _, _, _, _, _, h, _ => by cases h
  | n + 1, i, acc, b, j, hi, h, hv => by
    unfold textN at h
    split at h
    · cases h
    · rename_i h32
      have hlt : i < s.length := peek_lt (s := s) (i := i) (fun e => h32 (by rw [e]; decide))
      split at h
      · injection h with h; injection h with h1 h2; subst h1; subst h2; exact ⟨by omega, by omega, hv⟩
      · split at h
        · split at h
          · cases h
          · rename_i b' j' he
            have hk := escape_ok he
            have := textN_ok s n j' _ b j hk.2.1 h (valid_append hv hk.2.2)
            exact ⟨by omega, this.2⟩
        · split at h
          · cases h
          · rename_i hz
            have hk := runeLen_le (s.drop i)
            simp at hk
            have := textN_ok s n _ _ b j (by omega) h (valid_append hv (by simpa using valid_piece (r := []) hz valid_nil))
            exact ⟨by omega, this.2⟩
theorem textN_err (s : Bytes) : ∀ (n i : Nat) (acc : Bytes) (e : Nat × Nat), i ≤ s.length → textN s n i acc = .error e → e.2 ≤ s.length
  | 0, i, _, e, hi, h => by injection h with h; subst h; exact hi
  | n + 1, i, acc, e, hi, h => by
    unfold textN at h
    split at h
    · injection h with h; subst h; exact hi
    · split at h
      · cases h
      · split at h
        · split at h
          · rename_i e' he
            injection h with h; subst h; rw [escape_err he]; exact hi
          · rename_i b' j' he
            exact textN_err s n j' _ e (escape_ok he).2.1 h
        · split at h
          · injection h with h; subst h; exact hi
          · rename_i hz
            have hk := runeLen_le (s.drop i)
            simp at hk
            exact textN_err s n _ _ e (by omega) h
theorem text_ok {s b : Bytes} {i j : Nat} (h : text s i = .ok (b, j)) : i + 1 < j ∧ j ≤ s.length ∧ valid b = true := by
  unfold text at h
  split at h
  · rename_i g
    have := peek_lt (s := s) (i := i) (by rw [g]; decide)
    have := textN_ok s _ _ _ _ _ (by omega) h valid_nil
    exact ⟨by omega, this.2⟩
  · cases h
theorem text_err {s : Bytes} {i : Nat} {e : Nat × Nat} (hi : i ≤ s.length) (h : text s i = .error e) : e.2 ≤ s.length := by
  unfold text at h
  split at h
  · rename_i g
    have := peek_lt (s := s) (i := i) (by rw [g]; decide)
    exact textN_err s _ _ _ _ (by omega) h
  · injection h with h; subst h; exact hi

/-- More fuel changes nothing. -/
theorem textN_fuel (s : Bytes) : ∀ (n m i : Nat) (acc : Bytes), s.length < i + n → s.length < i + m → i ≤ s.length → textN s n i acc = textN s m i acc
  | 0, _, i, _, h, _, h' => by omega
  | _ + 1, 0, i, _, _, h, h' => by omega
  | n + 1, m + 1, i, acc, h, h', hi => by
    rw [textN_succ, textN_succ]
    split
    · rfl
    · split
      · rfl
      · split
        · cases he : escape s i with
          | error e => rfl
          | ok r =>
            obtain ⟨b, j⟩ := r
            have hk := escape_ok he
            exact textN_fuel s n m j _ (by omega) (by omega) hk.2.1
        · split
          · rfl
          · rename_i hz
            have hk := runeLen_le (s.drop i)
            simp at hk
            exact textN_fuel s n m _ _ (by omega) (by omega) (by omega)

theorem enc_low {c : UInt8} (h : c < 128) : enc c.toNat = [c] := by
  unfold enc
  have : c.toNat < 128 := by rw [UInt8.lt_iff_toNat_lt] at h; simpa using h
  rw [if_pos this]; simp
theorem esc_append (a b : Bytes) : esc (a ++ b) = esc a ++ esc b := by simp [esc]
theorem hexv_low {n : UInt8} (h : n < 16) : hexv (lowHex n) = some n.toNat := by
  have hn : n.toNat < 16 := by rw [UInt8.lt_iff_toNat_lt] at h; simpa using h
  have key : ∀ k : Fin 16, hexv (lowHex (UInt8.ofNat k.val)) = some k.val := by decide
  have := key ⟨n.toNat, hn⟩
  simpa using this
/-- A control byte, as it is written, is read as it was. -/
theorem control (c : UInt8) (hc : c < 32) : hex4 [48, 48, lowHex (c >>> 4), lowHex (c &&& 15)] = some c.toNat := by
  have key : ∀ k : Fin 32, hex4 [48, 48, lowHex (UInt8.ofNat k.val >>> 4), lowHex (UInt8.ofNat k.val &&& 15)] = some k.val := by decide
  have hn : c.toNat < 32 := by rw [UInt8.lt_iff_toNat_lt] at hc; simpa using hc
  have := key ⟨c.toNat, hn⟩
  simpa using this

theorem escape_simple {s r : Bytes} {i : Nat} {c x : UInt8} (h : s.drop i = 92 :: c :: r) (hx : simple c = some x) : escape s i = .ok ([x], i + 2) := by
  have h1 := drop_succ h
  have : s[i + 1]? = some c := by rw [← List.head?_drop, h1]; rfl
  unfold escape; rw [this]; simp [hx]
theorem escape_unit {s r : Bytes} {i v : Nat} {a b c d : UInt8} (h : s.drop i = 92 :: 117 :: a :: b :: c :: d :: r) (hv : hex4 [a, b, c, d] = some v) (hlow : v < 0xD800) : escape s i = .ok (enc v, i + 6) := by
  have h1 := drop_succ h
  have : s[i + 1]? = some 117 := by rw [← List.head?_drop, h1]; rfl
  have hu : unit s i = some v := by unfold unit; rw [h]; exact hv
  unfold escape; rw [this]
  simp only [Option.bind_some, show simple 117 = none from rfl, hu]
  rw [if_neg (by omega), if_neg (by omega)]

/-- One byte below 128, written, is read. -/
theorem textN_byte {s r acc : Bytes} {n i : Nat} {a : UInt8} (ha : a < 128) (h : s.drop i = escB a ++ r) : textN s (n + 1) i acc = textN s n (i + (escB a).length) (acc ++ [a]) := by
  have esc2 : ∀ c : UInt8, s.drop i = 92 :: c :: r → simple c = some a → textN s (n + 1) i acc = textN s n (i + 2) (acc ++ [a]) := by
    intro c hd hs
    rw [textN_succ]
    rw [peek_drop hd, if_neg (by decide), if_neg (by decide), if_pos rfl, escape_simple hd hs]
  unfold escB at h ⊢
  by_cases g1 : a = 34
  · subst g1; simp only [if_true] at h ⊢; exact esc2 34 h rfl
  rw [if_neg g1] at h ⊢
  by_cases g2 : a = 92
  · subst g2; simp only [if_true] at h ⊢; exact esc2 92 h rfl
  rw [if_neg g2] at h ⊢
  by_cases g3 : a = 8
  · subst g3; simp only [if_true] at h ⊢; exact esc2 98 h rfl
  rw [if_neg g3] at h ⊢
  by_cases g4 : a = 12
  · subst g4; simp only [if_true] at h ⊢; exact esc2 102 h rfl
  rw [if_neg g4] at h ⊢
  by_cases g5 : a = 10
  · subst g5; simp only [if_true] at h ⊢; exact esc2 110 h rfl
  rw [if_neg g5] at h ⊢
  by_cases g6 : a = 13
  · subst g6; simp only [if_true] at h ⊢; exact esc2 114 h rfl
  rw [if_neg g6] at h ⊢
  by_cases g7 : a = 9
  · subst g7; simp only [if_true] at h ⊢; exact esc2 116 h rfl
  rw [if_neg g7] at h ⊢
  by_cases g8 : a < 32
  · rw [if_pos g8] at h ⊢
    have hv := control a g8
    have hlt : a.toNat < 32 := by rw [UInt8.lt_iff_toNat_lt] at g8; simpa using g8
    have he := escape_unit (s := s) (i := i) h hv (by omega)
    rw [textN_succ]
    rw [peek_drop h, if_neg (by decide), if_neg (by decide), if_pos rfl, he, enc_low ha]
    rfl
  · rw [if_neg g8] at h ⊢
    rw [textN_succ]
    have hrl : runeLen (s.drop i) = 1 := by rw [h]; simp [runeLen, runeLenC, ha]
    have htk : (s.drop i).take 1 = [a] := by rw [h]; rfl
    rw [peek_drop h, if_neg g8, if_neg g1, if_neg g2, hrl, htk]
    rfl

theorem escB_high {c : UInt8} (h : 128 ≤ c) : escB c = [c] := by
  have hn : 128 ≤ c.toNat := by rw [UInt8.le_iff_toNat_le] at h; simpa using h
  have ne : ∀ k : UInt8, k.toNat < 128 → c ≠ k := fun k hk e => by subst e; omega
  unfold escB
  rw [if_neg (ne _ (by decide)), if_neg (ne _ (by decide)), if_neg (ne _ (by decide)), if_neg (ne _ (by decide)), if_neg (ne _ (by decide)), if_neg (ne _ (by decide)), if_neg (ne _ (by decide)),
    if_neg (by rw [UInt8.lt_iff_toNat_lt]; simp; omega)]
theorem esc_high : ∀ l : Bytes, (∀ c ∈ l, 128 ≤ c) → esc l = l
  | [], _ => rfl
  | a :: l, h => by
    have h1 := escB_high (h a (by simp))
    have h2 := esc_high l fun c hc => h c (by simp [hc])
    show escB a ++ esc l = a :: l
    rw [h1, h2]; rfl
theorem escB_pos (c : UInt8) : 0 < (escB c).length := by
  unfold escB
  repeat' split
  all_goals simp
theorem esc_length (l : Bytes) : l.length ≤ (esc l).length := by
  induction l with
  | nil => simp
  | cons a l ih =>
    have := escB_pos a
    show _ ≤ (escB a ++ esc l).length
    simp; omega

/-- A valid text, written, is read as it was. -/
theorem textN_back (s : Bytes) : ∀ t, valid t = true → ∀ (n i : Nat) (acc r : Bytes), s.length < i + n → s.drop i = esc t ++ 34 :: r → textN s n i acc = .ok (acc ++ t, i + (esc t).length + 1) := by
  refine valid_induct ?_ ?_
  · intro n i acc r hn h
    have h : s.drop i = 34 :: r := h
    have hlt := peek_lt (s := s) (i := i) (by rw [peek_drop h]; decide)
    cases n with
    | zero => omega
    | succ n =>
      rw [textN_succ]
      rw [peek_drop h, if_neg (by decide), if_pos rfl]; simp [esc]
  · intro l hz hv ih n i acc r hn h
    cases l with
    | nil => exact absurd rfl hz
    | cons a l =>
      have hlt : i < s.length := by
        rcases Nat.lt_or_ge i s.length with g | g
        · exact g
        · rw [List.drop_of_length_le g] at h
          have := congrArg List.length h
          simp at this
      cases n with
      | zero => omega
      | succ n =>
        by_cases ha : a < 128
        · have hr1 : runeLen (a :: l) = 1 := by simp [runeLen, runeLenC, ha]
          rw [hr1] at hv ih
          have hd : s.drop i = escB a ++ (esc l ++ 34 :: r) := by rw [h]; show (escB a ++ esc l) ++ _ = _; simp
          have hd2 := drop_add hd
          have hp := escB_pos a
          rw [textN_byte ha hd, ih n _ (acc ++ [a]) r (by omega) hd2]
          have e : (esc (a :: l)).length = (escB a).length + (esc l).length := by show (escB a ++ esc l).length = _; simp
          rw [e]
          simp; omega
        · have hk := runeLen_le (a :: l)
          have hhigh := runeLen_high (a :: l) hz (fun c hc => by cases hc; exact ha)
          have hsplit : a :: l = (a :: l).take (runeLen (a :: l)) ++ (a :: l).drop (runeLen (a :: l)) := (List.take_append_drop _ _).symm
          have he : esc (a :: l) = (a :: l).take (runeLen (a :: l)) ++ esc ((a :: l).drop (runeLen (a :: l))) := by
            conv => lhs; rw [hsplit]
            rw [esc_append, esc_high _ hhigh]
          have hd : s.drop i = (a :: l).take (runeLen (a :: l)) ++ (esc ((a :: l).drop (runeLen (a :: l))) ++ 34 :: r) := by rw [h, he]; simp
          have hrl : runeLen (s.drop i) = runeLen (a :: l) := by rw [hd]; exact runeLen_take _ _ hz
          have htl : ((a :: l).take (runeLen (a :: l))).length = runeLen (a :: l) := by rw [List.length_take]; omega
          have htk : (s.drop i).take (runeLen (a :: l)) = (a :: l).take (runeLen (a :: l)) := by
            rw [hd, List.take_append_of_le_length (by omega), List.take_take]; simp
          have hd2 := drop_add hd
          rw [htl] at hd2
          have ha' : (128 : UInt8) ≤ a := UInt8.not_lt.mp ha
          have hpk : peek s i = a := by
            cases hn0 : runeLen (a :: l) with
            | zero => exact absurd hn0 hz
            | succ q =>
              rw [hn0] at hd
              exact peek_drop hd
          have ne : ∀ k : UInt8, k.toNat < 128 → ¬ a = k := fun k hk e => by
            subst e; rw [UInt8.le_iff_toNat_le] at ha'; simp at ha'; omega
          rw [textN_succ]
          rw [hpk, if_neg (by rw [UInt8.lt_iff_toNat_lt]; rw [UInt8.le_iff_toNat_le] at ha'; simp at ha' ⊢; omega), if_neg (ne _ (by decide)), if_neg (ne _ (by decide)), hrl, if_neg hz, htk]
          rw [ih n _ _ r (by omega) hd2, he]
          congr 2
          · rw [List.append_assoc, List.take_append_drop]
          · rw [List.length_append, htl]; omega
theorem text_back {s t r : Bytes} {i : Nat} (hv : valid t = true) (h : s.drop i = jtext t ++ r) : text s i = .ok (t, i + (jtext t).length) := by
  have h1 : s.drop i = 34 :: (esc t ++ 34 :: r) := by rw [h]; simp [jtext]
  have hlt := peek_lt (s := s) (i := i) (by rw [peek_drop h1]; decide)
  unfold text
  rw [peek_drop h1, if_pos rfl, textN_back s t hv _ _ [] r (by omega) (drop_succ h1)]
  simp [jtext]; omega
end Cx
