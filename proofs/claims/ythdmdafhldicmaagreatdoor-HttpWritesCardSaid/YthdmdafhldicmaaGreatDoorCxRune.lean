/- Runes, as the document's answer finds them: how many bytes the bytes of a number are asked to be. -/
import Derived.Test.YthdmdafhldicmaaGreatDoorCxText
namespace Cx

def isRune (v : Int) : Bool := decide (0 ≤ v) && decide (v ≤ 1114111) && (decide (v < 55296) || decide (57343 < v))
def rstep (v : Int) (c : UInt8) : Int := 64 * v + c.toNat - 128
def rbase (n : Nat) (a : UInt8) : Int := if n = 2 then (a.toNat : Int) - 192 else if n = 3 then (a.toNat : Int) - 224 else if n = 4 then (a.toNat : Int) - 240 else a.toNat
/-- What n bytes say as a rune. -/
def runeV (n : Nat) (l : Bytes) : Int := ((l.drop 1).take (n - 1)).foldl rstep (rbase n (l.headD 0))

theorem isRune_iff {v : Int} : isRune v = true ↔ 0 ≤ v ∧ v ≤ 1114111 ∧ (v < 55296 ∨ 57343 < v) := by
  simp [isRune, and_assoc]
theorem u8_eq_iff (a : UInt8) (n : Nat) (h : n < 256) : UInt8.ofNat n = a ↔ a.toNat = n := by
  constructor
  · intro e; rw [← e]; simp [UInt8.toNat_ofNat']; omega
  · intro e; apply UInt8.toNat_inj.1; simp [UInt8.toNat_ofNat']; omega
theorem cont_iff {c : UInt8} : cont c = true ↔ 128 ≤ c.toNat ∧ c.toNat ≤ 191 := by
  simp only [cont, Bool.and_eq_true, decide_eq_true_eq, UInt8.le_iff_toNat_le]; exact Iff.rfl

theorem rune_one (a : UInt8) (r : Bytes) : (isRune (runeV 1 (a :: r)) = true ∧ enc (runeV 1 (a :: r)).toNat = [a]) ↔ runeLen (a :: r) = 1 := by
  have e : runeV 1 (a :: r) = a.toNat := rfl
  rw [e]
  have ha := a.toNat_lt
  have h1 : isRune a.toNat = true := isRune_iff.2 (by omega)
  have h2 : runeLen (a :: r) = 1 ↔ a.toNat < 128 := by
    show runeLenC a r = 1 ↔ _
    unfold runeLenC
    have : (a < 128) ↔ a.toNat < 128 := by rw [UInt8.lt_iff_toNat_lt]; exact Iff.rfl
    by_cases h : a < 128
    · rw [if_pos h]; exact ⟨fun _ => this.1 h, fun _ => rfl⟩
    · rw [if_neg h]
      constructor
      · intro h'; repeat' split at h'
        all_goals cases h'
      · intro h'; exact absurd (this.2 h') h
  rw [h2]
  constructor
  · rintro ⟨_, h⟩
    rcases Nat.lt_or_ge a.toNat 128 with g | g
    · exact g
    · exfalso
      unfold enc at h
      simp only [Int.toNat_natCast] at h
      rw [if_neg (by omega), if_pos (by omega)] at h
      simp at h
  · intro h
    refine ⟨h1, ?_⟩
    unfold enc
    simp only [Int.toNat_natCast]
    rw [if_pos (by omega)]
    simp

theorem runeLenC_two (a b : UInt8) (r : Bytes) : runeLenC a (b :: r) = 2 ↔ (194 ≤ a.toNat ∧ a.toNat ≤ 223) ∧ (128 ≤ b.toNat ∧ b.toNat ≤ 191) := by
  unfold runeLenC
  simp only [UInt8.lt_iff_toNat_lt, UInt8.le_iff_toNat_le, cont_iff, List.getD_cons_zero, List.getD_cons_succ]
  simp only [show (128 : UInt8).toNat = 128 from rfl, show (194 : UInt8).toNat = 194 from rfl, show (223 : UInt8).toNat = 223 from rfl, show (224 : UInt8).toNat = 224 from rfl, show (239 : UInt8).toNat = 239 from rfl, show (240 : UInt8).toNat = 240 from rfl, show (244 : UInt8).toNat = 244 from rfl]
  constructor
  · intro h
    repeat' split at h
    all_goals first | omega | (exfalso; revert h; decide) | skip
  · intro h
    rw [if_neg (by omega), if_pos (by omega), if_pos h.2]
theorem rune_two (a b : UInt8) (r : Bytes) : (isRune (runeV 2 (a :: b :: r)) = true ∧ enc (runeV 2 (a :: b :: r)).toNat = [a, b]) ↔ runeLen (a :: b :: r) = 2 := by
  have ha := a.toNat_lt; have hb := b.toNat_lt
  show _ ↔ runeLenC a (b :: r) = 2
  rw [runeLenC_two]
  have e : runeV 2 (a :: b :: r) = 64 * ((a.toNat : Int) - 192) + b.toNat - 128 := rfl
  rw [e, isRune_iff]
  constructor
  · rintro ⟨⟨h0, h1, h2⟩, h⟩
    obtain ⟨v, hv⟩ : ∃ v : Nat, (v : Int) = 64 * ((a.toNat : Int) - 192) + b.toNat - 128 := ⟨(64 * ((a.toNat : Int) - 192) + b.toNat - 128).toNat, by omega⟩
    rw [← hv] at h
    simp only [Int.toNat_natCast] at h
    unfold enc at h
    by_cases g1 : v < 128
    · rw [if_pos g1] at h; simp at h
    · rw [if_neg g1] at h
      by_cases g2 : v < 2048
      · rw [if_pos g2] at h
        injection h with ea h
        injection h with eb _
        rw [u8_eq_iff _ _ (by omega)] at ea eb
        omega
      · rw [if_neg g2] at h
        split at h <;> simp at h
  · intro h
    refine ⟨by omega, ?_⟩
    obtain ⟨v, hv⟩ : ∃ v : Nat, (v : Int) = 64 * ((a.toNat : Int) - 192) + b.toNat - 128 := ⟨(64 * ((a.toNat : Int) - 192) + b.toNat - 128).toNat, by omega⟩
    rw [← hv]
    simp only [Int.toNat_natCast]
    unfold enc
    rw [if_neg (by omega), if_pos (by omega), (u8_eq_iff a _ (by omega)).2 (by omega), (u8_eq_iff b _ (by omega)).2 (by omega)]

theorem runeLenC_three (a b c : UInt8) (r : Bytes) : runeLenC a (b :: c :: r) = 3 ↔ (224 ≤ a.toNat ∧ a.toNat ≤ 239) ∧ (128 ≤ b.toNat ∧ b.toNat ≤ 191) ∧ (128 ≤ c.toNat ∧ c.toNat ≤ 191) ∧ (a.toNat = 224 → 160 ≤ b.toNat) ∧ (a.toNat = 237 → b.toNat ≤ 159) := by
  unfold runeLenC
  have e1 : ∀ k : UInt8, a = k ↔ a.toNat = k.toNat := fun k => UInt8.toNat_inj.symm
  simp only [UInt8.lt_iff_toNat_lt, UInt8.le_iff_toNat_le, cont_iff, List.getD_cons_zero, List.getD_cons_succ, e1]
  simp only [show (128 : UInt8).toNat = 128 from rfl, show (194 : UInt8).toNat = 194 from rfl, show (223 : UInt8).toNat = 223 from rfl, show (224 : UInt8).toNat = 224 from rfl, show (239 : UInt8).toNat = 239 from rfl, show (240 : UInt8).toNat = 240 from rfl, show (244 : UInt8).toNat = 244 from rfl, show (237 : UInt8).toNat = 237 from rfl, show (160 : UInt8).toNat = 160 from rfl, show (159 : UInt8).toNat = 159 from rfl]
  constructor
  · intro h
    repeat' split at h
    all_goals first | omega | (exfalso; revert h; decide) | skip
  · intro h
    rw [if_neg (by omega), if_neg (by omega), if_pos (by omega), if_pos h.2]
theorem rune_three (a b c : UInt8) (r : Bytes) : (isRune (runeV 3 (a :: b :: c :: r)) = true ∧ enc (runeV 3 (a :: b :: c :: r)).toNat = [a, b, c]) ↔ runeLen (a :: b :: c :: r) = 3 := by
  have ha := a.toNat_lt; have hb := b.toNat_lt; have hc := c.toNat_lt
  show _ ↔ runeLenC a (b :: c :: r) = 3
  rw [runeLenC_three]
  have e : runeV 3 (a :: b :: c :: r) = 64 * (64 * ((a.toNat : Int) - 224) + b.toNat - 128) + c.toNat - 128 := rfl
  rw [e, isRune_iff]
  constructor
  · rintro ⟨⟨h0, h1, h2⟩, h⟩
    obtain ⟨v, hv⟩ : ∃ v : Nat, (v : Int) = 64 * (64 * ((a.toNat : Int) - 224) + b.toNat - 128) + c.toNat - 128 := ⟨(64 * (64 * ((a.toNat : Int) - 224) + b.toNat - 128) + c.toNat - 128).toNat, by omega⟩
    rw [← hv] at h
    simp only [Int.toNat_natCast] at h
    unfold enc at h
    by_cases g1 : v < 128
    · rw [if_pos g1] at h; simp at h
    · rw [if_neg g1] at h
      by_cases g2 : v < 2048
      · rw [if_pos g2] at h; simp at h
      · rw [if_neg g2] at h
        by_cases g3 : v < 65536
        · rw [if_pos g3] at h
          injection h with ea h
          injection h with eb h
          injection h with ec _
          rw [u8_eq_iff _ _ (by omega)] at ea eb ec
          omega
        · rw [if_neg g3] at h; simp at h
  · intro h
    refine ⟨by omega, ?_⟩
    obtain ⟨v, hv⟩ : ∃ v : Nat, (v : Int) = 64 * (64 * ((a.toNat : Int) - 224) + b.toNat - 128) + c.toNat - 128 := ⟨(64 * (64 * ((a.toNat : Int) - 224) + b.toNat - 128) + c.toNat - 128).toNat, by omega⟩
    rw [← hv]
    simp only [Int.toNat_natCast]
    unfold enc
    rw [if_neg (by omega), if_neg (by omega), if_pos (by omega), (u8_eq_iff a _ (by omega)).2 (by omega), (u8_eq_iff b _ (by omega)).2 (by omega), (u8_eq_iff c _ (by omega)).2 (by omega)]

theorem runeLenC_four (a b c d : UInt8) (r : Bytes) : runeLenC a (b :: c :: d :: r) = 4 ↔ (240 ≤ a.toNat ∧ a.toNat ≤ 244) ∧ (128 ≤ b.toNat ∧ b.toNat ≤ 191) ∧ (128 ≤ c.toNat ∧ c.toNat ≤ 191) ∧ (128 ≤ d.toNat ∧ d.toNat ≤ 191) ∧ (a.toNat = 240 → 144 ≤ b.toNat) ∧ (a.toNat = 244 → b.toNat ≤ 143) := by
  unfold runeLenC
  have e1 : ∀ k : UInt8, a = k ↔ a.toNat = k.toNat := fun k => UInt8.toNat_inj.symm
  simp only [UInt8.lt_iff_toNat_lt, UInt8.le_iff_toNat_le, cont_iff, List.getD_cons_zero, List.getD_cons_succ, e1]
  simp only [show (128 : UInt8).toNat = 128 from rfl, show (194 : UInt8).toNat = 194 from rfl, show (223 : UInt8).toNat = 223 from rfl, show (224 : UInt8).toNat = 224 from rfl, show (239 : UInt8).toNat = 239 from rfl, show (240 : UInt8).toNat = 240 from rfl, show (244 : UInt8).toNat = 244 from rfl, show (144 : UInt8).toNat = 144 from rfl, show (143 : UInt8).toNat = 143 from rfl]
  constructor
  · intro h
    repeat' split at h
    all_goals first | omega | (exfalso; revert h; decide) | skip
  · intro h
    rw [if_neg (by omega), if_neg (by omega), if_neg (by omega), if_pos (by omega), if_pos h.2]
theorem rune_four (a b c d : UInt8) (r : Bytes) : (isRune (runeV 4 (a :: b :: c :: d :: r)) = true ∧ enc (runeV 4 (a :: b :: c :: d :: r)).toNat = [a, b, c, d]) ↔ runeLen (a :: b :: c :: d :: r) = 4 := by
  have ha := a.toNat_lt; have hb := b.toNat_lt; have hc := c.toNat_lt; have hd := d.toNat_lt
  show _ ↔ runeLenC a (b :: c :: d :: r) = 4
  rw [runeLenC_four]
  have e : runeV 4 (a :: b :: c :: d :: r) = 64 * (64 * (64 * ((a.toNat : Int) - 240) + b.toNat - 128) + c.toNat - 128) + d.toNat - 128 := rfl
  rw [e, isRune_iff]
  constructor
  · rintro ⟨⟨h0, h1, h2⟩, h⟩
    obtain ⟨v, hv⟩ : ∃ v : Nat, (v : Int) = 64 * (64 * (64 * ((a.toNat : Int) - 240) + b.toNat - 128) + c.toNat - 128) + d.toNat - 128 := ⟨(64 * (64 * (64 * ((a.toNat : Int) - 240) + b.toNat - 128) + c.toNat - 128) + d.toNat - 128).toNat, by omega⟩
    rw [← hv] at h
    simp only [Int.toNat_natCast] at h
    unfold enc at h
    by_cases g1 : v < 128
    · rw [if_pos g1] at h; simp at h
    · rw [if_neg g1] at h
      by_cases g2 : v < 2048
      · rw [if_pos g2] at h; simp at h
      · rw [if_neg g2] at h
        by_cases g3 : v < 65536
        · rw [if_pos g3] at h; simp at h
        · rw [if_neg g3] at h
          injection h with ea h
          injection h with eb h
          injection h with ec h
          injection h with ed _
          rw [u8_eq_iff _ _ (by omega)] at ea eb ec ed
          omega
  · intro h
    refine ⟨by omega, ?_⟩
    obtain ⟨v, hv⟩ : ∃ v : Nat, (v : Int) = 64 * (64 * (64 * ((a.toNat : Int) - 240) + b.toNat - 128) + c.toNat - 128) + d.toNat - 128 := ⟨(64 * (64 * (64 * ((a.toNat : Int) - 240) + b.toNat - 128) + c.toNat - 128) + d.toNat - 128).toNat, by omega⟩
    rw [← hv]
    simp only [Int.toNat_natCast]
    unfold enc
    rw [if_neg (by omega), if_neg (by omega), if_neg (by omega), (u8_eq_iff a _ (by omega)).2 (by omega), (u8_eq_iff b _ (by omega)).2 (by omega), (u8_eq_iff c _ (by omega)).2 (by omega), (u8_eq_iff d _ (by omega)).2 (by omega)]

/-- The number of a rune's bytes is the one whose number's bytes they are. -/
theorem rune_n (l : Bytes) (n : Nat) (h1 : 1 ≤ n) (h4 : n ≤ 4) (hl : n ≤ l.length) : (isRune (runeV n l) = true ∧ enc (runeV n l).toNat = l.take n) ↔ runeLen l = n := by
  have hn : n = 1 ∨ n = 2 ∨ n = 3 ∨ n = 4 := by omega
  rcases hn with rfl | rfl | rfl | rfl
  · match l, hl with
    | a :: r, _ => exact rune_one a r
  · match l, hl with
    | a :: b :: r, _ => exact rune_two a b r
    | [_], hl => simp at hl
  · match l, hl with
    | a :: b :: c :: r, _ => exact rune_three a b c r
    | [_, _], hl => simp at hl
    | [_], hl => simp at hl
  · match l, hl with
    | a :: b :: c :: d :: r, _ => exact rune_four a b c d r
    | [_, _, _], hl => simp at hl
    | [_, _], hl => simp at hl
    | [_], hl => simp at hl
end Cx
