/- Requests that were put together: rows, letters, bodies. -/
import Derived.Test.YthdmdafhldicmaaGreatDoorHxMp
namespace Hx
/-- A field as text; what it adds. -/
def fl (x : Bytes × Bytes) : Bytes := x.1 ++ 58 :: x.2
def Fok (x : Bytes × Bytes) : Prop := x.1 ≠ [] ∧ x.1.all tokened = true ∧ x.2.all valued = true
def addF (f : F) (x : Bytes × Bytes) : F := ⟨f.names ++ [lower x.1], f.values ++ [trim x.2], f.close || (decide (lower x.1 = tConnection) && closes (trim x.2))⟩
theorem fieldAll_map : ∀ (l : List (Bytes × Bytes)) (f : F), (∀ x ∈ l, Fok x) → fieldAll f (l.map fl) = some (l.foldl addF f)
  | [], f, _ => rfl
  | x :: l, f, h => by
    obtain ⟨h1, h2, h3⟩ := h x (by simp)
    rw [List.map_cons]
    unfold fieldAll
    have : field f (fl x) = some (addF f x) := field_at h1 h2 h3
    rw [this]
    exact fieldAll_map l _ (fun y hy => h y (by simp [hy]))
theorem fl_ln {l : List (Bytes × Bytes)} (h : ∀ x ∈ l, Fok x) : ∀ y ∈ l.map fl, Ln y := by
  intro y hy
  obtain ⟨x, hx, rfl⟩ := List.mem_map.1 hy
  exact field_ln (h x hx).2.1 (h x hx).2.2
theorem length_len {f : F} {n : Nat} (h1 : count f tHost = 1) (h2 : count f tLength = 1) (h3 : count f tEncoding = 0) (h4 : f.value tLength = dec n) (hn : n ≤ 8000) : length f = (some n, 200) := by
  unfold length
  simp only
  rw [h1, h2, h3, h4, if_neg (by simp), if_neg (by simp), if_neg (by simp), if_neg (by simp), if_neg (by
    rw [not_or, not_or]
    refine ⟨dec_ne n, ?_, ?_⟩
    · have := dec_len 4 n (by omega); omega
    · rw [dec_digits]; simp), decN_dec, if_neg (by omega)]
theorem length_chunk {f : F} (h1 : count f tHost = 1) (h2 : count f tLength = 0) (h3 : count f tEncoding = 1) (h4 : lower (f.value tEncoding) = tChunked) : length f = (none, 200) := by
  unfold length
  simp only
  rw [h1, h2, h3, h4, if_neg (by simp), if_pos (by simp)]
theorem lowerB_digit {c : UInt8} (h : digit c = true) : visible c = true := by
  simp only [digit, Bool.and_eq_true, decide_eq_true_eq, UInt8.le_iff_toNat_le, UInt8.reduceToNat] at h
  simp only [visible, Bool.and_eq_true, decide_eq_true_eq, UInt8.le_iff_toNat_le, UInt8.lt_iff_toNat_lt, UInt8.reduceToNat]
  omega
theorem dec_visible (u : Nat) : (dec u).all visible = true := by
  rw [List.all_eq_true]; exact fun c h => lowerB_digit (List.all_eq_true.1 (dec_digits u) c h)

/-! ### Rows -/
def tPost : Bytes := [80, 79, 83, 84]
def rowF (n : Nat) : List (Bytes × Bytes) := [([72, 111, 115, 116], [32, 104]), ([67, 111, 110, 116, 101, 110, 116, 45, 76, 101, 110, 103, 116, 104], 32 :: dec n)]
def rowHead (i n : Nat) : Bytes := (tPost ++ 32 :: ((47 :: dec i) ++ tVersion)) ++ 13 :: 10 :: rows ((rowF n).map fl)
def row (i : Nat) (b : Bytes) : Bytes := rowHead i b.length ++ b
theorem rowF_ok (n : Nat) : ∀ x ∈ rowF n, Fok x := by
  intro x hx
  simp only [rowF, List.mem_cons, List.not_mem_nil, or_false] at hx
  rcases hx with rfl | rfl
  · exact ⟨by simp, by decide, by decide⟩
  · refine ⟨by simp, (show ([67, 111, 110, 116, 101, 110, 116, 45, 76, 101, 110, 103, 116, 104] : Bytes).all tokened = true by decide), ?_⟩
    show (32 :: dec n).all valued = true
    rw [List.all_cons, dec_valued]; rfl
theorem rowF_len (n : Nat) (hn : n ≤ 8000) : length ((rowF n).foldl addF F.nil) = (some n, 200) ∧ ((rowF n).foldl addF F.nil).close = false := by
  have e : (rowF n).foldl addF F.nil = ⟨[tHost, tLength], [[104], dec n], false⟩ := by
    have ht : trim (32 :: dec n) = dec n := by simpa using trim_dec [32] [] n (by decide) (by decide)
    have hh : trim [32, 104] = [104] := by decide
    simp only [rowF, List.foldl_cons, List.foldl_nil, addF, F.nil, ht, hh]
    rfl
  rw [e]
  exact ⟨length_len (show ([tHost, tLength].filter fun m => decide (m = tHost)).length = 1 by decide) (show ([tHost, tLength].filter fun m => decide (m = tLength)).length = 1 by decide) (show ([tHost, tLength].filter fun m => decide (m = tEncoding)).length = 0 by decide) rfl hn, rfl⟩
theorem read_row (i : Nat) (b t : Bytes) (hi : i ≤ 1000) (hb : b.length ≤ 8000) : read (row i b ++ t) = (⟨tPost, 47 :: dec i, b, false⟩, (row i b).length, 200) := by
  have hv : (47 :: dec i).all visible = true := by rw [List.all_cons, dec_visible]; rfl
  have hdi := dec_len 4 i (by omega)
  have hdb := dec_len 4 b.length (by omega)
  obtain ⟨h1, h2⟩ := rowF_len b.length hb
  have h := read_len (tPost ++ 32 :: ((47 :: dec i) ++ tVersion)) ((rowF b.length).map fl) b tPost (47 :: dec i) ((rowF b.length).foldl addF F.nil)
    (first_ln (by decide) (by decide) hv) (first_at (by decide) (by decide) (by decide) rfl hv) (fl_ln (rowF_ok _)) (fieldAll_map _ _ (rowF_ok _))
    (by
      simp only [List.length_append, List.length_cons, rowF, List.map_cons, List.map_nil, rows, fl, lf, List.length_nil, tPost, tVersion]
      omega) h1
  rw [h2] at h
  have h3 := read_app t (s := row i b) (by
    show (read (rowHead i b.length ++ b)).2.2 ≠ 0
    unfold rowHead; rw [h]; simp)
  rw [h3]
  exact h
theorem row_len (i : Nat) (b : Bytes) (hi : i ≤ 1000) (hb : b.length ≤ 1000) : (row i b).length ≤ 1100 := by
  have hdi := dec_len 4 i (by omega)
  have hdb := dec_len 4 b.length (by omega)
  unfold row rowHead
  simp only [List.length_append, List.length_cons, rowF, List.map_cons, List.map_nil, rows, fl, lf, List.length_nil, tPost, tVersion]
  omega
/-- All of them, from a number on, and 'GET ' behind. -/
def rowsFrom : Nat → List Bytes → Bytes
  | _, [] => []
  | i, b :: l => row i b ++ rowsFrom (i + 1) l
theorem rowsFrom_snoc : ∀ (l : List Bytes) (i : Nat) (b : Bytes), rowsFrom i (l ++ [b]) = rowsFrom i l ++ row (i + l.length) b
  | [], i, b => by simp [rowsFrom]
  | a :: l, i, b => by
    simp only [List.cons_append, rowsFrom, rowsFrom_snoc l (i + 1) b, List.length_cons, List.append_assoc]
    rw [show i + 1 + l.length = i + (l.length + 1) by omega]
theorem rowsFrom_len : ∀ (l : List Bytes) (i : Nat), (∀ b ∈ l, b.length ≤ 1000) → i + l.length ≤ 1000 → (rowsFrom i l).length ≤ 1100 * l.length
  | [], i, _, _ => by simp [rowsFrom]
  | a :: l, i, h, hi => by
    simp only [List.length_cons] at hi
    have h1 := row_len i a (by omega) (h a (by simp))
    have h2 := rowsFrom_len l (i + 1) (fun b hb => h b (by simp [hb])) (by omega)
    simp only [rowsFrom, List.length_append, List.length_cons]
    omega
theorem read_get : read [71, 69, 84, 32] = (Q.nil, 0, 0) := by
  have e1 : (read [71, 69, 84, 32]).2.2 = 0 := by decide +kernel
  have e2 : (read [71, 69, 84, 32]).2.1 = 0 := by decide +kernel
  have e3 : (read [71, 69, 84, 32]).1.method = [] := by decide +kernel
  have e4 : (read [71, 69, 84, 32]).1.path = [] := by decide +kernel
  have e5 : (read [71, 69, 84, 32]).1.body = [] := by decide +kernel
  have e6 : (read [71, 69, 84, 32]).1.close = false := by decide +kernel
  generalize read [71, 69, 84, 32] = r at *
  obtain ⟨⟨a, b, c, d⟩, n, e⟩ := r
  simp only at e1 e2 e3 e4 e5 e6
  subst e1 e2 e3 e4 e5 e6
  rfl
end Hx
