/- The pieces of a text that was put together: a first line, a field, numbers. -/
import Derived.Test.YthdmdafhldicmaaGreatDoorHxAt
import Derived.Test.YthdmdafhldicmaaGreatDoorHxW
import Derived.Test.YthdmdafhldicmaaGreatDoorHxDec
namespace Hx
theorem idx_front {c : UInt8} {l : Bytes} (h : c ∉ l) (r : Bytes) : ahead c (l ++ c :: r) = l ∧ behind c (l ++ c :: r) = r := by
  unfold ahead behind
  rw [idxOf_skip h]
  refine ⟨List.take_left, ?_⟩
  rw [← List.drop_drop, List.drop_left]; rfl
theorem not_capital {m : Bytes} {c : UInt8} (h : m.all capital = true) (hc : capital c = false) : c ∉ m := fun hm => by
  have := List.all_eq_true.1 h c hm
  rw [hc] at this; cases this
theorem first_at {m p : Bytes} (hm : m ≠ []) (hl : m.length ≤ 10) (hc : m.all capital = true) (hp : p.head? = some 47) (hv : p.all visible = true) : first (m ++ 32 :: (p ++ tVersion)) = some (m, p) := by
  have h32 : (32 : UInt8) ∉ m := not_capital hc (by decide)
  obtain ⟨ha, hb⟩ := idx_front h32 (p ++ tVersion)
  unfold first
  simp only
  rw [ha, hb]
  have ht : (p ++ tVersion).take ((p ++ tVersion).length - 9) = p := by
    rw [List.length_append, show tVersion.length = 9 from rfl, show p.length + 9 - 9 = p.length by omega, List.take_left]
  rw [ht, if_pos ⟨by simp, by rw [List.isSuffixOf_iff_suffix]; exact List.suffix_append p tVersion, hm, hl, hc, hp, hv⟩]
theorem not_token {n : Bytes} {c : UInt8} (h : n.all tokened = true) (hc : tokened c = false) : c ∉ n := fun hm => by
  have := List.all_eq_true.1 h c hm
  rw [hc] at this; cases this
theorem not_valued {n : Bytes} {c : UInt8} (h : n.all valued = true) (hc : valued c = false) : c ∉ n := fun hm => by
  have := List.all_eq_true.1 h c hm
  rw [hc] at this; cases this
theorem not_visible {n : Bytes} {c : UInt8} (h : n.all visible = true) (hc : visible c = false) : c ∉ n := fun hm => by
  have := List.all_eq_true.1 h c hm
  rw [hc] at this; cases this
theorem first_ln {m p : Bytes} (hm : m ≠ []) (hc : m.all capital = true) (hv : p.all visible = true) : Ln (m ++ 32 :: (p ++ tVersion)) := by
  refine ⟨by cases m with | nil => exact absurd rfl hm | cons a m => simp, ?_, ?_⟩
  · have h1 := not_capital (c := 10) hc (by decide); have h2 := not_visible (c := 10) hv (by decide)
    simp [h1, h2, tVersion]
  · have h1 := not_capital (c := 13) hc (by decide); have h2 := not_visible (c := 13) hv (by decide)
    simp [h1, h2, tVersion]
theorem field_at {f : F} {n v : Bytes} (hn : n ≠ []) (ht : n.all tokened = true) (hv : v.all valued = true) :
    field f (n ++ 58 :: v) = some ⟨f.names ++ [lower n], f.values ++ [trim v], f.close || (decide (lower n = tConnection) && closes (trim v))⟩ := by
  have h58 : (58 : UInt8) ∉ n := not_token ht (by decide)
  obtain ⟨ha, hb⟩ := idx_front h58 v
  unfold field
  rw [ha, hb, if_pos ⟨by simp, hn, ht, hv⟩]
theorem field_ln {n v : Bytes} (ht : n.all tokened = true) (hv : v.all valued = true) : Ln (n ++ 58 :: v) := by
  refine ⟨by cases n <;> simp, ?_, ?_⟩
  · have h1 := not_token (c := 10) ht (by decide); have h2 := not_valued (c := 10) hv (by decide)
    simp [h1, h2]
  · have h1 := not_token (c := 13) ht (by decide); have h2 := not_valued (c := 13) hv (by decide)
    simp [h1, h2]
/-- Blanks at the ends are gone, if what is between has none there. -/
theorem trim_mid {a x b : Bytes} (ha : a.all isBlank = true) (hb : b.all isBlank = true) (h1 : ∀ c, x.head? = some c → isBlank c = false) (h2 : ∀ c, x.getLast? = some c → isBlank c = false) (hx : x ≠ []) : trim (a ++ (x ++ b)) = x := by
  unfold trim
  rw [List.reverse_append, List.reverse_append, List.append_assoc, List.dropWhile_append_of_pos (by simpa using hb)]
  have e1 : (x.reverse ++ a.reverse).dropWhile isBlank = x.reverse ++ a.reverse := by
    obtain ⟨c, hc⟩ : ∃ c, x.getLast? = some c := by
      cases h : x.getLast? with
      | none => exact absurd (List.getLast?_eq_none_iff.1 h) hx
      | some c => exact ⟨c, rfl⟩
    have := h2 c hc
    rw [List.getLast?_eq_head?_reverse] at hc
    cases hr : x.reverse with
    | nil => rw [hr] at hc; cases hc
    | cons d r =>
      rw [hr] at hc
      injection hc with hc
      subst hc
      rw [List.cons_append, List.dropWhile_cons, this, if_neg (by decide)]
  rw [e1, List.reverse_append, List.reverse_reverse, List.reverse_reverse, List.dropWhile_append_of_pos (by simpa using ha)]
  cases x with
  | nil => exact absurd rfl hx
  | cons d r => rw [List.dropWhile_cons, h1 d rfl, if_neg (by decide)]
theorem dec_digits : ∀ (u : Nat), (dec u).all digit = true
  | u => by
    by_cases h : u < 10
    · rw [dec_lt h]
      have : ∀ v : Fin 10, digit (UInt8.ofNat (48 + v.val)) = true := by decide
      simpa using this ⟨u, h⟩
    · rw [dec_ge h, List.all_append, dec_digits (u / 10)]
      have : ∀ v : Fin 10, digit (UInt8.ofNat (48 + v.val)) = true := by decide
      simpa using this ⟨u % 10, by omega⟩
termination_by u => u
decreasing_by omega
theorem dec_ne (u : Nat) : dec u ≠ [] := by
  rw [dec]; split <;> simp
theorem decN_snoc (c : UInt8) : ∀ (l : Bytes) (a : Nat), decN (l ++ [c]) a = decN l a * 10 + (c.toNat - 48)
  | [], a => rfl
  | d :: l, a => by simp only [List.cons_append, decN]; exact decN_snoc c l _
theorem decN_dec : ∀ (u : Nat), decN (dec u) 0 = u
  | u => by
    have hd : ∀ v : Fin 10, (UInt8.ofNat (48 + v.val)).toNat - 48 = v.val := by decide
    by_cases h : u < 10
    · rw [dec_lt h]
      have := hd ⟨u, h⟩
      simp only [decN]; simp only at this; omega
    · rw [dec_ge h, decN_snoc, decN_dec (u / 10)]
      have := hd ⟨u % 10, by omega⟩
      simp only at this; omega
termination_by u => u
decreasing_by omega
theorem digit_blank {c : UInt8} (h : digit c = true) : isBlank c = false := by
  have : ∀ c : UInt8, digit c = true → isBlank c = false := by
    intro c h
    simp only [digit, Bool.and_eq_true, decide_eq_true_eq, UInt8.le_iff_toNat_le] at h
    simp only [isBlank, Bool.or_eq_false_iff, beq_eq_false_iff_ne]
    exact ⟨fun e => by subst e; simp at h, fun e => by subst e; simp at h⟩
  exact this c h
theorem digit_valued {c : UInt8} (h : digit c = true) : valued c = true := by
  simp only [digit, Bool.and_eq_true, decide_eq_true_eq, UInt8.le_iff_toNat_le] at h
  simp only [UInt8.reduceToNat] at h
  simp only [valued, visible, Bool.or_eq_true, Bool.and_eq_true, decide_eq_true_eq, UInt8.lt_iff_toNat_lt, UInt8.le_iff_toNat_le, UInt8.reduceToNat]
  omega
theorem trim_dec (a b : Bytes) (u : Nat) (ha : a.all isBlank = true) (hb : b.all isBlank = true) : trim (a ++ (dec u ++ b)) = dec u := by
  have hd := List.all_eq_true.1 (dec_digits u)
  exact trim_mid ha hb (fun c h => digit_blank (hd c (List.mem_of_mem_head? h))) (fun c h => digit_blank (hd c (List.mem_of_getLast? h))) (dec_ne u)
theorem dec_valued (u : Nat) : (dec u).all valued = true := by
  rw [List.all_eq_true]; exact fun c h => digit_valued (List.all_eq_true.1 (dec_digits u) c h)
/-- Hexadecimal digits. -/
def hexd (u : Nat) : UInt8 := if u < 10 then UInt8.ofNat (48 + u) else UInt8.ofNat (87 + u)
def hexs (u : Nat) : Bytes :=
  if _h : u < 16 then [hexd u] else hexs (u / 16) ++ [hexd (u % 16)]
termination_by u
decreasing_by omega
theorem hexs_lt {u : Nat} (h : u < 16) : hexs u = [hexd u] := by rw [hexs, dif_pos h]
theorem hexs_ge {u : Nat} (h : ¬ u < 16) : hexs u = hexs (u / 16) ++ [hexd (u % 16)] := by rw [hexs, dif_neg h]
theorem hexN_snoc (c : UInt8) : ∀ (l : Bytes) (a : Nat), hexN (l ++ [c]) a = (hexN l a).bind fun x => (hexv c).map fun d => x * 16 + d
  | [], a => by
    simp only [List.nil_append, hexN, Option.bind_some]
    cases hexv c <;> rfl
  | d :: l, a => by
    simp only [List.cons_append, hexN]
    cases hexv d with
    | none => rfl
    | some x => exact hexN_snoc c l _
theorem hexv_hexd : ∀ v : Fin 16, hexv (hexd v.val) = some v.val := by decide
theorem hexN_hexs : ∀ (u : Nat), hexN (hexs u) 0 = some u
  | u => by
    by_cases h : u < 16
    · rw [hexs_lt h]
      have := hexv_hexd ⟨u, h⟩
      simp only [hexN]; simp only at this; rw [this]; exact congrArg some (Nat.zero_add u)
    · rw [hexs_ge h, hexN_snoc, hexN_hexs (u / 16)]
      have := hexv_hexd ⟨u % 16, by omega⟩
      simp only at this
      rw [this]
      simp only [Option.bind_some, Option.map_some]
      congr 1; omega
termination_by u => u
decreasing_by omega
theorem hexs_len : ∀ (k u : Nat), u < 16 ^ (k + 1) → (hexs u).length ≤ k + 1
  | 0, u, h => by rw [hexs_lt (by simpa using h)]; simp
  | k + 1, u, h => by
    by_cases h10 : u < 16
    · rw [hexs_lt h10]; simp
    · rw [hexs_ge h10, List.length_append]
      have := hexs_len k (u / 16) (by
        rw [Nat.div_lt_iff_lt_mul (by decide)]
        rw [Nat.pow_succ] at h
        exact h)
      simp only [List.length_cons, List.length_nil]
      omega
theorem hexs_ne (u : Nat) : hexs u ≠ [] := by
  rw [hexs]; split <;> simp
theorem hexd_plain : ∀ v : Fin 16, hexd v.val ≠ 10 ∧ hexd v.val ≠ 13 ∧ hexd v.val ≠ 59 := by decide
theorem hexs_plain : ∀ (u : Nat), ∀ c ∈ hexs u, c ≠ 10 ∧ c ≠ 13 ∧ c ≠ 59
  | u => by
    intro c hc
    by_cases h : u < 16
    · rw [hexs_lt h] at hc
      obtain rfl := List.mem_singleton.1 hc
      exact hexd_plain ⟨u, h⟩
    · rw [hexs_ge h, List.mem_append] at hc
      rcases hc with hc | hc
      · exact hexs_plain (u / 16) c hc
      · obtain rfl := List.mem_singleton.1 hc
        exact hexd_plain ⟨u % 16, by omega⟩
termination_by u => u
decreasing_by omega
theorem size_at {h : Bytes} {n : Nat} (h59 : (59 : UInt8) ∉ h) (hne : h ≠ []) (hl : h.length ≤ 8) (hn : hexN h 0 = some n) : size h = some n := by
  unfold size
  simp only
  rw [ahead_not h59, behind_not h59, if_pos ⟨hne, hl, rfl⟩, hn]
theorem size_hex {n : Nat} (h : n < 65536) : size (hexs n) = some n ∧ size (48 :: hexs n) = some n := by
  have hl := hexs_len 3 n (by simpa using h)
  have hp := hexs_plain n
  refine ⟨size_at (fun hm => (hp _ hm).2.2 rfl) (hexs_ne n) (by omega) (hexN_hexs n), size_at ?_ (by simp) (by simp; omega) ?_⟩
  · simp only [List.mem_cons, not_or]
    exact ⟨by decide, fun hm => (hp _ hm).2.2 rfl⟩
  · show hexN (48 :: hexs n) 0 = some n
    simp only [hexN]
    rw [show hexv 48 = some 0 by decide]
    simpa using hexN_hexs n
theorem chunk_ok {n : Nat} {d : Bytes} (hd : d ≠ []) (hn : d.length = n) (h : n < 65536) : ChunkOk (hexs n, d) ∧ ChunkOk (48 :: hexs n, d) := by
  have hl := hexs_len 3 n (by simpa using h)
  have hp := hexs_plain n
  obtain ⟨s1, s2⟩ := size_hex h
  subst hn
  exact ⟨⟨fun hm => (hp _ hm).1 rfl, fun hm => (hp _ hm).2.1 rfl, by simp only; omega, s1, hd⟩,
    ⟨by simp only [List.mem_cons, not_or]; exact ⟨by decide, fun hm => (hp _ hm).1 rfl⟩, by simp only [List.mem_cons, not_or]; exact ⟨by decide, fun hm => (hp _ hm).2.1 rfl⟩, by simp only [List.length_cons]; omega, s2, hd⟩⟩
end Hx
