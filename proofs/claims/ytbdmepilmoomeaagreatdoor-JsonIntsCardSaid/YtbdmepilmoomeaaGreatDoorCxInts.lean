/- Numbers: an int written in decimal is a number and is told as it was. -/
import Derived.Test.YtbdmepilmoomeaaGreatDoorCxLaws
namespace Cx

/-- What digits say. -/
def digVal (l : Bytes) : Nat := l.foldl (fun n c => 10 * n + (c.toNat - 48)) 0
/-- Without a minus ahead. -/
def unsign (t : Bytes) : Bytes := match t with | 45 :: r => r | t => t
/-- The int that a number is, if it has at most fifteen digits and nothing else. -/
def toIntT (t : Bytes) : Option Int :=
  if unsign t ≠ [] ∧ (unsign t).length ≤ 15 ∧ (unsign t).all isDig = true
  then some (if t.head? = some 45 then -(digVal (unsign t) : Int) else (digVal (unsign t) : Int)) else none
def toInt : J → Option Int
  | .mk k _ t _ _ => if k = 3 then toIntT t else none

/-- A number in decimal digits. -/
def dec (n : Nat) : Bytes := if h : n < 10 then [UInt8.ofNat (48 + n)] else dec (n / 10) ++ [UInt8.ofNat (48 + n % 10)]
termination_by n
decreasing_by omega
def decI (n : Int) : Bytes := if n < 0 then 45 :: dec n.natAbs else dec n.natAbs

theorem dec_small {n : Nat} (h : n < 10) : dec n = [UInt8.ofNat (48 + n)] := by unfold dec; rw [dif_pos h]
theorem dec_big {n : Nat} (h : ¬ n < 10) : dec n = dec (n / 10) ++ dec (n % 10) := by
  conv => lhs; unfold dec
  rw [dif_neg h, dec_small (n := n % 10) (by omega)]
theorem isDig_of {n : Nat} (h : n < 10) : isDig (UInt8.ofNat (48 + n)) = true := by
  have : ∀ n : Fin 10, isDig (UInt8.ofNat (48 + n.val)) = true := by decide
  exact this ⟨n, h⟩
theorem toNat_of {n : Nat} (h : n < 10) : (UInt8.ofNat (48 + n)).toNat = 48 + n := by
  have : ∀ n : Fin 10, (UInt8.ofNat (48 + n.val)).toNat = 48 + n.val := by decide
  exact this ⟨n, h⟩
theorem dec_dig (n : Nat) : ∀ c ∈ dec n, isDig c = true := by
  unfold dec
  split
  · rename_i h
    intro c hc
    simp only [List.mem_singleton] at hc
    subst hc; exact isDig_of h
  · rename_i h
    intro c hc
    rcases List.mem_append.1 hc with hc | hc
    · exact dec_dig (n / 10) c hc
    · simp only [List.mem_singleton] at hc
      subst hc; exact isDig_of (by omega)
termination_by n
decreasing_by omega
theorem dec_ne (n : Nat) : dec n ≠ [] := by
  unfold dec; split <;> simp
theorem digVal_snoc (l : Bytes) (c : UInt8) : digVal (l ++ [c]) = 10 * digVal l + (c.toNat - 48) := by
  unfold digVal; rw [List.foldl_append]; rfl
theorem dec_val (n : Nat) : digVal (dec n) = n := by
  unfold dec
  split
  · rename_i h
    unfold digVal
    simp only [List.foldl]
    rw [toNat_of h]; omega
  · rename_i h
    rw [digVal_snoc, dec_val (n / 10), toNat_of (by omega)]; omega
termination_by n
decreasing_by omega
theorem dec_length : ∀ (k n : Nat), n < 10 ^ (k + 1) → (dec n).length ≤ k + 1
  | 0, n, h => by rw [dec_small (by simpa using h)]; simp
  | k + 1, n, h => by
    by_cases h1 : n < 10
    · rw [dec_small h1]; simp
    · rw [dec_big h1, List.length_append, dec_small (n := n % 10) (by omega)]
      have := dec_length k (n / 10) (by rw [Nat.pow_succ] at h; omega)
      simp; omega
/-- Its first digit is no 0, but for 0. -/
theorem dec_head (n : Nat) : (dec n).length = 1 ∨ (dec n).head? ≠ some 48 := by
  unfold dec
  split
  · left; rfl
  · rename_i h
    right
    have h1 := dec_ne (n / 10)
    rw [show (dec (n / 10) ++ [UInt8.ofNat (48 + n % 10)]).head? = (dec (n / 10)).head? from by cases hx : dec (n / 10) with | nil => exact absurd hx h1 | cons c l => rfl]
    rcases dec_head (n / 10) with g | g
    · by_cases h2 : n / 10 < 10
      · rw [dec_small h2]
        simp only [List.head?_cons]
        intro e
        injection e with e
        have := congrArg UInt8.toNat e
        rw [toNat_of h2] at this
        simp at this; omega
      · have h3 := dec_big h2
        have h4 : 0 < (dec (n / 10 / 10)).length := List.length_pos_iff.2 (dec_ne _)
        have h5 : 0 < (dec (n / 10 % 10)).length := List.length_pos_iff.2 (dec_ne _)
        rw [h3, List.length_append] at g; omega
    · exact g
termination_by n
decreasing_by omega

theorem skipD_over {s ds r : Bytes} {i : Nat} (h : s.drop i = ds ++ r) (hd : ∀ c ∈ ds, isDig c = true) (hr : isDig (r.headD 0) = false) : skipD s i = i + ds.length := by
  unfold skipD
  rw [h, List.takeWhile_append_of_pos hd]
  cases r with
  | nil => simp
  | cons c r => simp [show isDig c = false from hr]
theorem dig_not {c : UInt8} (h : isDig c = true) : c ≠ 45 ∧ c ≠ 46 ∧ c ≠ 101 ∧ c ≠ 69 ∧ c ≠ 43 := by
  refine ⟨?_, ?_, ?_, ?_, ?_⟩ <;> (rintro rfl; revert h; decide)

theorem numInt_dec {s r : Bytes} {i n : Nat} (h : s.drop i = dec n ++ r) (hr : isDig (r.headD 0) = false) : numInt s i = .ok (i + (dec n).length) := by
  have hd := dec_dig n
  unfold numInt
  cases hx : dec n with
  | nil => exact absurd hx (dec_ne n)
  | cons c l =>
    have hp : peek s i = c := peek_drop (r := l ++ r) (by rw [h, hx]; rfl)
    by_cases h48 : c = 48
    · have hl : (dec n).length = 1 := by
        rcases dec_head n with g | g
        · exact g
        · rw [hx] at g; exact absurd (by rw [h48]; rfl) g
      rw [hx] at hl
      have ho : opt s [48] i = i + 1 := by unfold opt; rw [hp, if_pos (by simp [h48])]
      rw [if_neg (by omega), hl]
    · have ho : opt s [48] i = i := by unfold opt; rw [hp, if_neg (by simpa using h48)]
      rw [if_pos ho]
      have hk := skipD_over h hd hr
      unfold digits
      rw [hk, hx, if_neg (by simp)]

/-- A number: its sign, its digits, and nothing or an exponent 0. -/
theorem isNum_dec (n : Nat) (neg : Bool) (ex : Bool) (hn : n < 10 ^ 15) : isNum ((if neg then [45] else []) ++ (dec n ++ (if ex then [101, 48] else []))) := by
  have hlen := dec_length 14 n hn
  have hd := dec_dig n
  obtain ⟨r, hr⟩ : ∃ r : Bytes, r = if ex then [101, 48] else [] := ⟨_, rfl⟩
  rw [← hr]
  have hr0 : isDig (r.headD 0) = false := by cases ex <;> simp [hr] <;> decide
  obtain ⟨s, hs⟩ : ∃ s : Bytes, s = (if neg then [45] else []) ++ (dec n ++ r) := ⟨_, rfl⟩
  rw [← hs]
  obtain ⟨a, ha⟩ : ∃ a : Nat, a = if neg then 1 else 0 := ⟨_, rfl⟩
  have hdrop : s.drop a = dec n ++ r := by cases neg <;> simp [ha, hs]
  have hopt : opt s [45] 0 = a := by
    unfold opt
    cases neg
    · cases hx : dec n with
      | nil => exact absurd hx (dec_ne n)
      | cons c l =>
        have hp : peek s 0 = c := peek_drop (r := l ++ r) (by rw [hs, hx]; rfl)
        have := dig_not (hd c (by rw [hx]; simp))
        rw [hp, if_neg (by simpa using this.1), ha]; rfl
    · have hp : peek s 0 = 45 := peek_drop (r := dec n ++ r) (by rw [hs]; rfl)
      rw [hp, if_pos (by simp), ha]; rfl
  have hsl : s.length = a + (dec n).length + r.length := by cases neg <;> simp [ha, hs] <;> omega
  have hrl : r.length ≤ 2 := by cases ex <;> simp [hr]
  have hb : s.drop (a + (dec n).length) = r := drop_add hdrop
  unfold isNum number
  rw [hopt, numInt_dec hdrop hr0]
  simp only
  have hfr : numFrac s (a + (dec n).length) = .ok (a + (dec n).length) := by
    unfold numFrac opt
    cases ex
    · rw [peek_end (by rw [hsl, hr]; simp)]; simp
    · rw [peek_drop (c := 101) (r := [48]) (by rw [hb, hr]; rfl)]; simp
  rw [hfr]
  simp only
  have hex : numExp s (a + (dec n).length) = .ok s.length := by
    unfold numExp
    cases ex
    · have ho : opt s [101, 69] (a + (dec n).length) = a + (dec n).length := by
        unfold opt; rw [peek_end (by rw [hsl, hr]; simp)]; simp
      rw [if_pos ho, hsl, hr]; simp
    · have hb' : s.drop (a + (dec n).length) = 101 :: [48] := by rw [hb, hr]; rfl
      have ho : opt s [101, 69] (a + (dec n).length) = a + (dec n).length + 1 := by
        unfold opt; rw [peek_drop hb']; simp
      have hb2 := drop_succ hb'
      have ho2 : opt s [43, 45] (a + (dec n).length + 1) = a + (dec n).length + 1 := by
        unfold opt; rw [peek_drop hb2]; simp
      rw [if_neg (by omega), ho2]
      unfold digits
      rw [skipD_over (ds := [48]) (r := []) hb2 (by intro c hc; simp at hc; subst hc; decide) (by decide)]
      rw [if_neg (by simp), hsl, hr]; simp
  rw [hex]
  simp only
  rw [if_neg]
  have : a ≤ 1 := by cases neg <;> simp [ha]
  omega

theorem decI_eq (n : Int) : decI n = (if decide (n < 0) then [45] else []) ++ dec n.natAbs := by
  unfold decI; by_cases h : n < 0 <;> simp [h]
theorem isNum_decI {n : Int} (h : -999999999999999 ≤ n) (h' : n ≤ 999999999999999) : isNum (decI n) := by
  have := isNum_dec n.natAbs (decide (n < 0)) false (by omega)
  rw [decI_eq]; simpa using this
theorem isNum_decI_e {n : Int} (h : -999999999999999 ≤ n) (h' : n ≤ 999999999999999) : isNum (decI n ++ [101, 48]) := by
  have := isNum_dec n.natAbs (decide (n < 0)) true (by omega)
  rw [decI_eq, List.append_assoc]; simpa using this
theorem parse_num {t : Bytes} (h : isNum t) : parse t = .ok (.mk 3 false t [] []) ∧ print (.mk 3 false t [] []) = t := by
  have hl := isNum_len h
  have hr : Right (.mk 3 false t [] []) = true := by
    unfold Right right
    simp [nodes, nodesK, h]
  have hp : pr (.mk 3 false t [] []) = t := by unfold pr; simp
  refine ⟨?_, ?_⟩
  · have := parse_pr hr (by rw [hp]; omega)
    rw [hp] at this; exact this
  · unfold print; rw [if_pos hr, hp]
theorem unsign_dig {l : Bytes} (h : ∀ c ∈ l, isDig c = true) : unsign l = l := by
  unfold unsign
  split
  · rename_i r
    have := h 45 (by simp)
    exact absurd this (by decide)
  · rfl
theorem toInt_decI {n : Int} (h : -999999999999999 ≤ n) (h' : n ≤ 999999999999999) : toInt (.mk 3 false (decI n) [] []) = some n := by
  have hd := dec_dig n.natAbs
  have hl := dec_length 14 n.natAbs (by omega)
  have hv := dec_val n.natAbs
  have hne := dec_ne n.natAbs
  show (if (3 : Int) = 3 then toIntT (decI n) else none) = some n
  rw [if_pos rfl]
  unfold toIntT
  have hu : unsign (decI n) = dec n.natAbs := by
    unfold decI
    split
    · rfl
    · exact unsign_dig hd
  rw [hu, if_pos ⟨hne, hl, by rw [List.all_eq_true]; exact hd⟩, hv]
  by_cases hn : n < 0
  · have : (decI n).head? = some 45 := by unfold decI; rw [if_pos hn]; rfl
    rw [if_pos this]
    congr 1; omega
  · have : (decI n).head? ≠ some 45 := by
      unfold decI; rw [if_neg hn]
      intro e
      exact absurd (hd 45 (List.mem_of_mem_head? (by rw [e]; rfl))) (by decide)
    rw [if_neg this]
    congr 1; omega
theorem toInt_e {t : Bytes} : toInt (.mk 3 false (t ++ [101, 48]) [] []) = none := by
  show (if (3 : Int) = 3 then toIntT (t ++ [101, 48]) else none) = none
  rw [if_pos rfl]
  unfold toIntT
  rw [if_neg]
  rintro ⟨_, _, h⟩
  rw [List.all_eq_true] at h
  have hm : (101 : UInt8) ∈ unsign (t ++ [101, 48]) := by
    unfold unsign
    split
    · rename_i r he
      cases t with
      | nil => simp at he
      | cons c t =>
        simp only [List.cons_append, List.cons.injEq] at he
        rw [← he.2]; simp
    · simp
  exact absurd (h _ hm) (by decide)
theorem decI_length {n : Int} (h : -999999999999999 ≤ n) (h' : n ≤ 999999999999999) : (decI n).length ≤ 16 := by
  have hl := dec_length 14 n.natAbs (by omega)
  unfold decI; split <;> simp <;> omega
end Cx
