/- What is read of bytes is read of them with others behind. -/
import Derived.Test.YthdmdafhldicmaaGreatDoorHxReq
namespace Hx

theorem window_app (s t : Bytes) (i most : Nat) : ∃ u, ((s ++ t).drop i).take (max most i - i) = (s.drop i).take (max most i - i) ++ u := by
  by_cases h : i ≤ s.length
  · rw [List.drop_append_of_le_length h, List.take_append]
    exact ⟨_, rfl⟩
  · rw [List.drop_eq_nil_of_le (show s.length ≤ i by omega)]
    exact ⟨_, by simp; rfl⟩
theorem mem_idx_app {c : UInt8} {s : Bytes} (h : c ∈ s) (u : Bytes) : (s ++ u).idxOf c = s.idxOf c := by
  rw [List.idxOf_append, if_pos h]
theorem ahead_app {c : UInt8} {s : Bytes} (h : c ∈ s) (u : Bytes) : ahead c (s ++ u) = ahead c s := by
  unfold ahead
  rw [mem_idx_app h, List.take_append_of_le_length (Nat.le_of_lt (idx_lt h))]
theorem line_app {s : Bytes} (t : Bytes) {i most : Nat} (hi : i ≤ s.length) (h : (line s i most).2.1 ≠ 0) : line (s ++ t) i most = line s i most := by
  obtain ⟨u, hu⟩ := window_app s t i most
  by_cases h10 : (10 : UInt8) ∈ (s.drop i).take (max most i - i)
  · unfold line
    simp only
    rw [hu, if_pos h10, if_pos (List.mem_append_left _ h10), ahead_app h10, mem_idx_app h10]
  · have hlen := part_length s i most
    unfold line at h ⊢
    simp only at h ⊢
    rw [if_neg h10] at h ⊢
    by_cases hm : most < s.length
    · have e : ((s ++ t).drop i).take (max most i - i) = (s.drop i).take (max most i - i) := by
        rw [List.drop_append_of_le_length hi, List.take_append_of_le_length (by rw [List.length_drop]; omega)]
      rw [e, if_neg h10, if_pos hm, if_pos (by rw [List.length_append]; omega)]
    · rw [if_neg hm] at h
      exact absurd rfl h
theorem fieldsN_app (s t : Bytes) (most : Nat) : ∀ (n : Nat) (f : F) (i m : Nat), i ≤ s.length → n ≤ m → (fieldsN s most n f i).2.1 ≠ 0 → fieldsN (s ++ t) most m f i = fieldsN s most n f i
  | 0, f, i, m, hi, hm, h => absurd rfl h
  | n + 1, f, i, m, hi, hm, h => by
    obtain ⟨m, rfl⟩ : ∃ k, m = k + 1 := ⟨m - 1, by omega⟩
    rw [fieldsN_succ] at h
    rw [fieldsN_succ, fieldsN_succ]
    by_cases h1 : (line s i most).2.1 ≠ 200
    · rw [if_pos h1] at h ⊢
      rw [line_app t hi h, if_pos h1]
    · have h0 : (line s i most).2.1 ≠ 0 := by omega
      rw [if_neg h1] at h ⊢
      rw [line_app t hi h0, if_neg h1]
      by_cases h2 : (line s i most).1 = []
      · rw [if_pos h2, if_pos h2]
      · rw [if_neg h2] at h ⊢
        rw [if_neg h2]
        cases hf : field f (line s i most).1 with
        | none => rfl
        | some g =>
          rw [hf] at h
          exact fieldsN_app s t most n g _ m (line_le hi).2 (by omega) h
theorem fields_app {s : Bytes} (t : Bytes) {i most : Nat} (hi : i ≤ s.length) (h : (fields s i most).2.1 ≠ 0) : fields (s ++ t) i most = fields s i most :=
  fieldsN_app s t most _ _ _ _ hi (by rw [List.length_append]; omega) h
theorem pre2 {x y : Bytes} (h : (x ++ y).isPrefixOf [13, 10] = true) : x.isPrefixOf [13, 10] = true := by
  rw [List.isPrefixOf_iff_prefix] at *
  exact (List.prefix_append x y).trans h
theorem chunksN_app (s t : Bytes) : ∀ (n : Nat) (acc : Bytes) (i m : Nat), i ≤ s.length → n ≤ m → (chunksN s n acc i).2.1 ≠ 0 → chunksN (s ++ t) m acc i = chunksN s n acc i
  | 0, acc, i, m, hi, hm, h => absurd rfl h
  | n + 1, acc, i, m, hi, hm, h => by
    obtain ⟨m, rfl⟩ : ∃ k, m = k + 1 := ⟨m - 1, by omega⟩
    have hle := line_le (s := s) (i := i) (most := i + 100) hi
    rw [chunksN_succ] at h
    rw [chunksN_succ, chunksN_succ]
    by_cases h0 : (line s i (i + 100)).2.1 = 0
    · rw [h0, if_neg (by decide), if_pos (by decide)] at h
      exact absurd rfl h
    rw [line_app t hi h0]
    obtain ⟨L, hL⟩ : ∃ L, L = line s i (i + 100) := ⟨_, rfl⟩
    rw [← hL] at h h0 hle ⊢
    by_cases h1 : L.2.1 = 431
    · rw [if_pos h1, if_pos h1]
    rw [if_neg h1] at h ⊢
    rw [if_neg h1]
    by_cases h2 : L.2.1 ≠ 200
    · rw [if_pos h2, if_pos h2]
    rw [if_neg h2] at h ⊢
    rw [if_neg h2]
    cases hs : size L.1 with
    | none => rfl
    | some k =>
      rw [hs] at h
      simp only at h ⊢
      by_cases h3 : 8000 < k + acc.length
      · rw [if_pos h3, if_pos h3]
      rw [if_neg h3] at h ⊢
      rw [if_neg h3]
      by_cases h4 : k = 0
      · rw [if_pos h4] at h ⊢
        rw [if_pos h4]
        have h5 : (fields s L.2.2 (L.2.2 + 2000)).2.1 ≠ 0 := fun h5 => by
          rw [h5] at h
          exact h rfl
        rw [fields_app t hle.2 h5]
      rw [if_neg h4] at h ⊢
      rw [if_neg h4]
      have hx : ∃ u, ((s ++ t).drop (L.2.2 + k)).take 2 = ((s.drop (L.2.2 + k)).take 2) ++ u ∧ (2 ≤ ((s.drop (L.2.2 + k)).take 2).length → u = []) := by
        by_cases h6 : L.2.2 + k ≤ s.length
        · rw [List.drop_append_of_le_length h6, List.take_append]
          refine ⟨_, rfl, fun h7 => ?_⟩
          rw [List.length_take] at h7
          rw [show 2 - (s.drop (L.2.2 + k)).length = 0 by omega, List.take_zero]
        · rw [List.drop_eq_nil_of_le (show s.length ≤ L.2.2 + k by omega)]
          exact ⟨_, by simp; rfl, by simp⟩
      obtain ⟨u, hu, hu2⟩ := hx
      rw [hu]
      obtain ⟨T, hT⟩ : ∃ T, T = (s.drop (L.2.2 + k)).take 2 := ⟨_, rfl⟩
      rw [← hT] at h hu2 ⊢
      by_cases h6 : T.isPrefixOf [13, 10] = false
      · rw [if_pos h6] at h ⊢
        rw [if_pos (by
          rw [Bool.eq_false_iff] at h6 ⊢
          exact fun h7 => h6 (pre2 h7))]
      rw [if_neg h6] at h ⊢
      by_cases h7 : T.length < 2
      · rw [if_pos h7] at h
        exact absurd rfl h
      rw [if_neg h7] at h ⊢
      have hu3 := hu2 (by omega)
      subst hu3
      rw [List.append_nil, if_neg h6, if_neg h7]
      have h8 : L.2.2 + k + 2 ≤ s.length := by
        have : T.length ≤ s.length - (L.2.2 + k) := by rw [hT, List.length_take, List.length_drop]; omega
        omega
      rw [List.drop_append_of_le_length hle.2, List.take_append_of_le_length (by rw [List.length_drop]; omega)]
      exact chunksN_app s t n _ _ m h8 (by omega) h
theorem chunks_app {s : Bytes} (t : Bytes) {i : Nat} (hi : i ≤ s.length) (h : (chunks s i).2.1 ≠ 0) : chunks (s ++ t) i = chunks s i :=
  chunksN_app s t _ _ _ _ hi (by rw [List.length_append]; omega) h
theorem topN_app (s t : Bytes) : ∀ (n i m : Nat), i ≤ s.length → n ≤ m → (topN s n i).2.1 ≠ 0 → topN (s ++ t) m i = topN s n i
  | 0, i, m, hi, hm, h => absurd rfl h
  | n + 1, i, m, hi, hm, h => by
    obtain ⟨m, rfl⟩ : ∃ k, m = k + 1 := ⟨m - 1, by omega⟩
    rw [topN_succ] at h
    rw [topN_succ, topN_succ]
    by_cases h0 : (line s i 2000).2.1 = 0
    · rw [if_neg (by rw [h0]; simp)] at h
      exact absurd h0 h
    rw [line_app t hi h0]
    by_cases h1 : (line s i 2000).1 = [] ∧ (line s i 2000).2.1 = 200
    · rw [if_pos h1] at h ⊢
      rw [if_pos h1]
      exact topN_app s t n _ m (line_le hi).2 (by omega) h
    · rw [if_neg h1, if_neg h1]
theorem topN_le (s : Bytes) : ∀ (n i : Nat), i ≤ s.length → i ≤ (topN s n i).2.2 ∧ (topN s n i).2.2 ≤ s.length ∧ ((topN s n i).2.1 = 200 → i < (topN s n i).2.2)
  | 0, i, h => ⟨Nat.le_refl _, h, fun h => by simp [topN] at h⟩
  | n + 1, i, h => by
    rw [topN_succ]
    have hl := line_le (s := s) (i := i) (most := 2000) h
    split
    · rename_i h1
      have h2 := line_lt h1.2
      have := topN_le s n _ hl.2
      exact ⟨by omega, this.2.1, fun _ => by omega⟩
    · exact ⟨hl.1, hl.2, fun h => line_lt h⟩
theorem chunksN_le (s : Bytes) : ∀ (n : Nat) (acc : Bytes) (i : Nat), i ≤ s.length → i ≤ (chunksN s n acc i).2.2 ∧ (chunksN s n acc i).2.2 ≤ s.length
  | 0, acc, i, h => ⟨Nat.le_refl _, h⟩
  | n + 1, acc, i, h => by
    have hl := line_le (s := s) (i := i) (most := i + 100) h
    rw [chunksN_succ]
    obtain ⟨L, hL⟩ : ∃ L, L = line s i (i + 100) := ⟨_, rfl⟩
    rw [← hL] at hl ⊢
    split
    · exact hl
    split
    · exact hl
    cases size L.1 with
    | none => exact hl
    | some k =>
      simp only
      split
      · exact hl
      split
      · have := fields_le (s := s) (i := L.2.2) (most := L.2.2 + 2000) hl.2
        exact ⟨by simp only; omega, this.2⟩
      split
      · exact hl
      split
      · exact hl
      rename_i h7
      have h8 : L.2.2 + k + 2 ≤ s.length := by
        rw [List.length_take, List.length_drop] at h7
        omega
      have := chunksN_le s n (acc ++ (s.drop L.2.2).take k) _ h8
      exact ⟨by omega, this.2⟩
theorem chunks_le {s : Bytes} {i : Nat} (h : i ≤ s.length) : i ≤ (chunks s i).2.2 ∧ (chunks s i).2.2 ≤ s.length := chunksN_le s _ _ _ h

theorem fieldsN_some (s : Bytes) (most : Nat) : ∀ (n : Nat) (f : F) (i : Nat) (g : F), (fieldsN s most n f i).1 = some g → (fieldsN s most n f i).2.1 = 200
  | 0, f, i, g, h => by simp [fieldsN] at h
  | n + 1, f, i, g, h => by
    rw [fieldsN_succ] at h ⊢
    split at h
    · cases h
    · rename_i h1
      rw [if_neg h1]
      split at h
      · rename_i h2; rw [if_pos h2]
      · rename_i h2
        rw [if_neg h2]
        cases hf : field f (line s i most).1 with
        | none => rw [hf] at h; cases h
        | some g2 => rw [hf] at h; exact fieldsN_some s most n g2 _ g h
/-- 'read' in steps. -/
def read3 (s : Bytes) (m p : Bytes) (f : F) (j : Nat) : Q × Nat × Nat :=
  match length f with
  | (none, _) => if (chunks s j).2.1 = 200 then (⟨m, p, (chunks s j).1, f.close⟩, (chunks s j).2.2, 200) else (Q.nil, 0, (chunks s j).2.1)
  | (some n, e) => if e ≠ 200 then (Q.nil, 0, e) else if s.length - j < n then (Q.nil, 0, 0) else (⟨m, p, (s.drop j).take n, f.close⟩, j + n, 200)
def read2 (s : Bytes) (m p : Bytes) (i : Nat) : Q × Nat × Nat :=
  match (fields s i 2000).1 with
  | none => (Q.nil, 0, (fields s i 2000).2.1)
  | some f => read3 s m p f (fields s i 2000).2.2
theorem read_eq (s : Bytes) : read s = if (topN s (s.length + 1) 0).2.1 ≠ 200 then (Q.nil, 0, (topN s (s.length + 1) 0).2.1) else
    match first (topN s (s.length + 1) 0).1 with
    | none => (Q.nil, 0, 400)
    | some (m, p) => read2 s m p (topN s (s.length + 1) 0).2.2 := by
  unfold read
  obtain ⟨l, e, i⟩ := topN s (s.length + 1) 0
  simp only
  split
  · rfl
  · cases first l with
    | none => rfl
    | some x =>
      obtain ⟨m, p⟩ := x
      simp only
      unfold read2
      obtain ⟨fo, e, j⟩ := fields s i 2000
      cases fo with
      | none => rfl
      | some f =>
        simp only
        unfold read3
        cases hlen : length f with
        | mk no e2 =>
          cases no with
          | none =>
            simp only
          | some n => rfl
theorem read3_app {s : Bytes} (t : Bytes) {m p : Bytes} {f : F} {j : Nat} (hj : j ≤ s.length) (h : (read3 s m p f j).2.2 ≠ 0) : read3 (s ++ t) m p f j = read3 s m p f j := by
  unfold read3 at h ⊢
  cases hlen : length f with
  | mk no e2 =>
    rw [hlen] at h
    cases no with
    | none =>
      simp only at h ⊢
      have h0 : (chunks s j).2.1 ≠ 0 := fun h0 => by
        rw [h0, if_neg (by decide)] at h
        exact h rfl
      rw [chunks_app t hj h0]
    | some n =>
      simp only at h ⊢
      by_cases h1 : e2 ≠ 200
      · rw [if_pos h1, if_pos h1]
      rw [if_neg h1] at h ⊢
      rw [if_neg h1]
      by_cases h2 : s.length - j < n
      · rw [if_pos h2] at h
        exact absurd rfl h
      rw [if_neg h2, if_neg (by rw [List.length_append]; omega), List.drop_append_of_le_length hj, List.take_append_of_le_length (by rw [List.length_drop]; omega)]
theorem read2_app {s : Bytes} (t : Bytes) {m p : Bytes} {i : Nat} (hi : i ≤ s.length) (h : (read2 s m p i).2.2 ≠ 0) : read2 (s ++ t) m p i = read2 s m p i := by
  unfold read2 at h ⊢
  have hle := fields_le (s := s) (i := i) (most := 2000) hi
  cases hf : (fields s i 2000).1 with
  | none =>
    rw [hf] at h
    simp only at h ⊢
    rw [fields_app t hi h, hf]
  | some f =>
    rw [hf] at h
    simp only at h ⊢
    have h1 : (fields s i 2000).2.1 ≠ 0 := by
      have := fieldsN_some s 2000 _ _ _ _ hf
      unfold fields
      rw [this]; decide
    rw [fields_app t hi h1, hf]
    exact read3_app t hle.2 h
theorem read_app {s : Bytes} (t : Bytes) (h : (read s).2.2 ≠ 0) : read (s ++ t) = read s := by
  rw [read_eq] at h
  rw [read_eq s, read_eq (s ++ t)]
  have hle := topN_le s (s.length + 1) 0 (Nat.zero_le _)
  have h0 : (topN s (s.length + 1) 0).2.1 ≠ 0 := fun h0 => by
    rw [h0, if_pos (by decide)] at h
    exact h rfl
  rw [topN_app s t (s.length + 1) 0 ((s ++ t).length + 1) (Nat.zero_le _) (by rw [List.length_append]; omega) h0]
  by_cases h1 : (topN s (s.length + 1) 0).2.1 ≠ 200
  · rw [if_pos h1, if_pos h1]
  rw [if_neg h1] at h ⊢
  rw [if_neg h1]
  cases hf : first (topN s (s.length + 1) 0).1 with
  | none => rfl
  | some x =>
    obtain ⟨m, p⟩ := x
    rw [hf] at h
    exact read2_app t hle.2.1 h
theorem read_le {s : Bytes} (h : (read s).2.2 = 200) : 1 ≤ (read s).2.1 ∧ (read s).2.1 ≤ s.length := by
  rw [read_eq] at h ⊢
  have hle := topN_le s (s.length + 1) 0 (Nat.zero_le _)
  by_cases h1 : (topN s (s.length + 1) 0).2.1 ≠ 200
  · rw [if_pos h1] at h; exact absurd h h1
  rw [if_neg h1] at h ⊢
  have h2 := hle.2.2 (by omega)
  cases hf : first (topN s (s.length + 1) 0).1 with
  | none => rw [hf] at h; cases h
  | some x =>
    obtain ⟨m, p⟩ := x
    rw [hf] at h
    simp only at h ⊢
    have hl2 := fields_le (s := s) (i := (topN s (s.length + 1) 0).2.2) (most := 2000) hle.2.1
    unfold read2 at h ⊢
    generalize hz : (topN s (s.length + 1) 0).2.2 = z at h hl2 h2 ⊢
    cases hff : (fields s z 2000).1 with
    | none => rw [hff] at h; exact absurd h (fields_st hff)
    | some f =>
      rw [hff] at h
      simp only at h ⊢
      generalize (fields s z 2000).2.2 = y at h hl2 ⊢
      unfold read3 at h ⊢
      cases hlen : length f with
      | mk no e2 =>
        rw [hlen] at h
        cases no with
        | none =>
          simp only at h ⊢
          by_cases h3 : (chunks s y).2.1 = 200
          · rw [if_pos h3]
            have := chunks_le (s := s) (i := y) hl2.2
            exact ⟨by simp only; omega, this.2⟩
          · rw [if_neg h3] at h; exact absurd h h3
        | some n =>
          simp only at h ⊢
          by_cases h3 : e2 ≠ 200
          · rw [if_pos h3] at h; exact absurd h h3
          rw [if_neg h3] at h ⊢
          by_cases h4 : s.length - y < n
          · rw [if_pos h4] at h; cases h
          rw [if_neg h4]
          exact ⟨by simp only; omega, by simp only; omega⟩
/-- Of a part of bytes the same is told, or more are needed. -/
theorem read_part (s : Bytes) (k : Nat) (h : (read (s.take k)).2.2 ≠ 0) : read (s.take k) = read s := by
  have := read_app (s.drop k) h
  rw [List.take_append_drop] at this
  exact this.symm
end Hx
