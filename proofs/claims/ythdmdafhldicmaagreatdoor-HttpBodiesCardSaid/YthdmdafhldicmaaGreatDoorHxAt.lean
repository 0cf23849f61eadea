/- Reading of texts that were put together: a line, fields, a head, chunks. -/
import Derived.Test.YthdmdafhldicmaaGreatDoorHxGo
namespace Hx
def lf : Bytes := [13, 10]
theorem idxOf_skip {c : UInt8} {l : Bytes} (h : c ∉ l) (r : Bytes) : (l ++ c :: r).idxOf c = l.length := by
  rw [List.idxOf_append, if_neg h, List.idxOf_cons_self]; omega
theorem line_at (pre l rest : Bytes) (most : Nat) (h10 : (10 : UInt8) ∉ l) (h13 : (13 : UInt8) ∉ l) (hm : pre.length + l.length + 2 ≤ most) :
    line (pre ++ (l ++ 13 :: 10 :: rest)) pre.length most = (l, 200, pre.length + l.length + 2) := by
  have hw : ((pre ++ (l ++ 13 :: 10 :: rest)).drop pre.length).take (max most pre.length - pre.length) = (l ++ [13]) ++ 10 :: rest.take (most - pre.length - l.length - 2) := by
    rw [List.drop_left, show max most pre.length - pre.length = l.length + (2 + (most - pre.length - l.length - 2)) by omega, List.take_append]
    rw [List.take_of_length_le (by omega), show l.length + (2 + (most - pre.length - l.length - 2)) - l.length = (most - pre.length - l.length - 2) + 2 by omega]
    simp
  have h11 : (10 : UInt8) ∉ l ++ [13] := by simp [h10]
  have hi := idxOf_skip h11 (rest.take (most - pre.length - l.length - 2))
  unfold line
  simp only
  rw [hw, if_pos (by simp), hi]
  have ha : ahead 10 ((l ++ [13]) ++ 10 :: rest.take (most - pre.length - l.length - 2)) = l ++ [13] := by
    unfold ahead; rw [hi, List.take_left]
  rw [ha]
  have ht : lineText (l ++ [13]) = some l := by
    unfold lineText
    rw [if_pos ⟨by simp, by simpa using h13⟩]; simp
  rw [ht]
  simp only [List.length_append, List.length_cons, List.length_nil]
  rfl
/-- A text may be a line, and is not empty. -/
def Ln (l : Bytes) : Prop := l ≠ [] ∧ (10 : UInt8) ∉ l ∧ (13 : UInt8) ∉ l
/-- Lines behind one another, and an empty one. -/
def rows : List Bytes → Bytes
  | [] => lf
  | l :: r => l ++ 13 :: 10 :: rows r
theorem rows_len : ∀ (l : List Bytes), 2 ≤ (rows l).length
  | [] => by simp [rows, lf]
  | a :: l => by have := rows_len l; simp only [rows, List.length_append, List.length_cons]; omega
def fieldAll : F → List Bytes → Option F
  | f, [] => some f
  | f, l :: r => match field f l with | none => none | some g => fieldAll g r
theorem fieldsN_at : ∀ (fs : List Bytes) (pre rest : Bytes) (most n : Nat) (f g : F), (∀ l ∈ fs, Ln l) → fieldAll f fs = some g → pre.length + (rows fs).length ≤ most → fs.length < n →
    fieldsN (pre ++ (rows fs ++ rest)) most n f pre.length = (some g, 200, pre.length + (rows fs).length)
  | [], pre, rest, most, n, f, g, _, hg, hm, hn => by
    obtain ⟨n, rfl⟩ : ∃ k, n = k + 1 := ⟨n - 1, by omega⟩
    have := line_at pre [] rest most (by simp) (by simp) (by simpa [rows, lf] using hm)
    rw [fieldsN_succ]
    have e : pre ++ (rows [] ++ rest) = pre ++ ([] ++ 13 :: 10 :: rest) := by simp [rows, lf]
    rw [e, this, if_neg (by simp), if_pos rfl]
    simp only [fieldAll] at hg
    injection hg with hg
    subst hg
    rfl
  | l :: fs, pre, rest, most, n, f, g, hl, hg, hm, hn => by
    obtain ⟨n, rfl⟩ : ∃ k, n = k + 1 := ⟨n - 1, by omega⟩
    obtain ⟨h0, h10, h13⟩ := hl l (by simp)
    have hr := rows_len fs
    simp only [rows, List.length_append, List.length_cons] at hm
    have h1 := line_at pre l (rows fs ++ rest) most h10 h13 (by omega)
    have e : pre ++ (rows (l :: fs) ++ rest) = pre ++ (l ++ 13 :: 10 :: (rows fs ++ rest)) := by simp [rows]
    rw [fieldsN_succ, e, h1, if_neg (by simp), if_neg h0]
    simp only
    unfold fieldAll at hg
    cases hf : field f l with
    | none => rw [hf] at hg; cases hg
    | some f2 =>
      rw [hf] at hg
      simp only at hg ⊢
      have h2 := fieldsN_at fs (pre ++ (l ++ [13, 10])) rest most n f2 g (fun x hx => hl x (by simp [hx])) hg (by simp only [List.length_append, List.length_cons, List.length_nil]; omega) (by simpa using hn)
      have e2 : pre ++ (l ++ [13, 10]) ++ (rows fs ++ rest) = pre ++ (l ++ 13 :: 10 :: (rows fs ++ rest)) := by simp
      rw [e2] at h2
      have e3 : (pre ++ (l ++ [13, 10])).length = pre.length + l.length + 2 := by simp; omega
      rw [e3] at h2
      rw [h2]
      simp only [rows, List.length_append, List.length_cons]
      congr 2
      omega
theorem rows_count : ∀ (fs : List Bytes), fs.length < (rows fs).length
  | [] => by simp [rows, lf]
  | a :: l => by have := rows_count l; simp only [rows, List.length_append, List.length_cons]; omega
theorem fields_at (fs : List Bytes) (pre rest : Bytes) (most : Nat) (g : F) (hl : ∀ l ∈ fs, Ln l) (hg : fieldAll F.nil fs = some g) (hm : pre.length + (rows fs).length ≤ most) :
    fields (pre ++ (rows fs ++ rest)) pre.length most = (some g, 200, pre.length + (rows fs).length) := by
  unfold fields
  exact fieldsN_at fs pre rest most _ _ g hl hg hm (by
    have := rows_count fs
    simp only [List.length_append]; omega)
/-- A head is read, and the body stands behind it. -/
theorem read_at (l : Bytes) (fs : List Bytes) (rest : Bytes) (m p : Bytes) (g : F) (h0 : Ln l) (hf : first l = some (m, p)) (hl : ∀ l ∈ fs, Ln l) (hg : fieldAll F.nil fs = some g) (hm : (l ++ 13 :: 10 :: rows fs).length ≤ 2000) :
    read ((l ++ 13 :: 10 :: rows fs) ++ rest) = read3 ((l ++ 13 :: 10 :: rows fs) ++ rest) m p g (l ++ 13 :: 10 :: rows fs).length := by
  simp only [List.length_append, List.length_cons] at hm
  have h1 := line_at [] l (rows fs ++ rest) 2000 h0.2.1 h0.2.2 (by simp; omega)
  have e : ([] : Bytes) ++ (l ++ 13 :: 10 :: (rows fs ++ rest)) = (l ++ 13 :: 10 :: rows fs) ++ rest := by simp
  rw [e] at h1
  have h2 : topN ((l ++ 13 :: 10 :: rows fs) ++ rest) (((l ++ 13 :: 10 :: rows fs) ++ rest).length + 1) 0 = (l, 200, l.length + 2) := by
    rw [topN_succ]
    have h1' : line ((l ++ 13 :: 10 :: rows fs) ++ rest) 0 2000 = (l, 200, l.length + 2) := by
      have := h1; simpa using this
    rw [h1', if_neg (fun h => h0.1 h.1)]
  rw [read_eq, h2, if_neg (by simp)]
  simp only
  rw [hf]
  simp only
  have h3 := fields_at fs (l ++ [13, 10]) rest 2000 g hl hg (by simp only [List.length_append, List.length_cons, List.length_nil]; omega)
  have e2 : (l ++ [13, 10]) ++ (rows fs ++ rest) = (l ++ 13 :: 10 :: rows fs) ++ rest := by simp
  have e3 : (l ++ [13, 10]).length = l.length + 2 := by simp
  rw [e2, e3] at h3
  unfold read2
  rw [h3]
  simp only
  congr 1
  simp only [List.length_append, List.length_cons]
  omega
/-- A request with a length. -/
theorem read_len (l : Bytes) (fs : List Bytes) (body : Bytes) (m p : Bytes) (g : F) (h0 : Ln l) (hf : first l = some (m, p)) (hl : ∀ l ∈ fs, Ln l) (hg : fieldAll F.nil fs = some g) (hm : (l ++ 13 :: 10 :: rows fs).length ≤ 2000) (hn : length g = (some body.length, 200)) :
    read ((l ++ 13 :: 10 :: rows fs) ++ body) = (⟨m, p, body, g.close⟩, ((l ++ 13 :: 10 :: rows fs) ++ body).length, 200) := by
  rw [read_at l fs body m p g h0 hf hl hg hm]
  unfold read3
  rw [hn]
  simp only
  rw [if_neg (by simp), List.length_append, if_neg (by omega), List.drop_left, List.take_of_length_le (Nat.le_refl _)]
/-- Chunks behind one another, each with the line that tells its size. -/
def chunkText : List (Bytes × Bytes) → Bytes
  | [] => []
  | (h, d) :: r => h ++ 13 :: 10 :: (d ++ 13 :: 10 :: chunkText r)
def chunkData : List (Bytes × Bytes) → Bytes
  | [] => []
  | (_, d) :: r => d ++ chunkData r
def ChunkOk (c : Bytes × Bytes) : Prop := (10 : UInt8) ∉ c.1 ∧ (13 : UInt8) ∉ c.1 ∧ c.1.length ≤ 90 ∧ size c.1 = some c.2.length ∧ c.2 ≠ []
theorem chunkText_count : ∀ (cs : List (Bytes × Bytes)), cs.length ≤ (chunkText cs).length
  | [] => by simp [chunkText]
  | (h, d) :: r => by have := chunkText_count r; simp only [chunkText, List.length_append, List.length_cons]; omega
theorem chunksN_at (last : Bytes) (fs : List Bytes) (g : F) (k10 : (10 : UInt8) ∉ last) (k13 : (13 : UInt8) ∉ last) (kl : last.length ≤ 90) (ks : size last = some 0) (hl : ∀ l ∈ fs, Ln l) (hg : fieldAll F.nil fs = some g) (hm : (rows fs).length ≤ 2000) :
    ∀ (cs : List (Bytes × Bytes)) (pre rest acc : Bytes) (n : Nat), (∀ c ∈ cs, ChunkOk c) → acc.length + (chunkData cs).length ≤ 8000 → cs.length < n →
    chunksN (pre ++ (chunkText cs ++ (last ++ 13 :: 10 :: (rows fs ++ rest)))) n acc pre.length = (acc ++ chunkData cs, 200, pre.length + (chunkText cs ++ (last ++ 13 :: 10 :: rows fs)).length)
  | [], pre, rest, acc, n, _, ha, hn => by
    obtain ⟨n, rfl⟩ : ∃ k, n = k + 1 := ⟨n - 1, by omega⟩
    simp only [chunkText, chunkData, List.nil_append, List.append_nil] at ha ⊢
    have h1 := line_at pre last (rows fs ++ rest) (pre.length + 100) k10 k13 (by omega)
    simp only [List.length_nil, Nat.add_zero] at ha
    rw [chunksN_succ, h1, if_neg (by simp), if_neg (by simp)]
    simp only
    rw [ks]
    simp only
    rw [if_neg (by omega), if_pos trivial]
    have h2 := fields_at fs (pre ++ (last ++ [13, 10])) rest (pre.length + last.length + 2 + 2000) g hl hg (by simp only [List.length_append, List.length_cons, List.length_nil]; omega)
    have e2 : pre ++ (last ++ [13, 10]) ++ (rows fs ++ rest) = pre ++ (last ++ 13 :: 10 :: (rows fs ++ rest)) := by simp
    have e3 : (pre ++ (last ++ [13, 10])).length = pre.length + last.length + 2 := by simp; omega
    rw [e2, e3] at h2
    rw [h2]
    simp only
    rw [if_neg (by simp)]
    congr 2
    simp only [List.length_append, List.length_cons]
    omega
  | (h, d) :: cs, pre, rest, acc, n, hc, ha, hn => by
    obtain ⟨n, rfl⟩ : ∃ k, n = k + 1 := ⟨n - 1, by omega⟩
    obtain ⟨c10, c13, cl, csz, cne⟩ := hc (h, d) (by simp)
    simp only at c10 c13 cl csz cne
    obtain ⟨R, hR⟩ : ∃ R, R = chunkText cs ++ (last ++ 13 :: 10 :: (rows fs ++ rest)) := ⟨_, rfl⟩
    have e : pre ++ (chunkText ((h, d) :: cs) ++ (last ++ 13 :: 10 :: (rows fs ++ rest))) = pre ++ (h ++ 13 :: 10 :: (d ++ 13 :: 10 :: R)) := by
      rw [hR]; simp [chunkText]
    rw [e]
    have h1 := line_at pre h (d ++ 13 :: 10 :: R) (pre.length + 100) c10 c13 (by omega)
    simp only [chunkData, List.length_append] at ha
    have hd : d.length ≠ 0 := fun h => cne (List.length_eq_zero_iff.1 h)
    rw [chunksN_succ, h1, if_neg (by simp), if_neg (by simp)]
    simp only
    rw [csz]
    simp only
    rw [if_neg (by omega), if_neg hd]
    have e4 : pre ++ (h ++ 13 :: 10 :: (d ++ 13 :: 10 :: R)) = (pre ++ (h ++ [13, 10])) ++ (d ++ 13 :: 10 :: R) := by simp
    have e5 : (pre ++ (h ++ [13, 10])).length = pre.length + h.length + 2 := by simp; omega
    have hdrop : (pre ++ (h ++ 13 :: 10 :: (d ++ 13 :: 10 :: R))).drop (pre.length + h.length + 2) = d ++ 13 :: 10 :: R := by
      rw [e4, ← e5, List.drop_left]
    have hdrop2 : (pre ++ (h ++ 13 :: 10 :: (d ++ 13 :: 10 :: R))).drop (pre.length + h.length + 2 + d.length) = 13 :: 10 :: R := by
      rw [← List.drop_drop, hdrop, List.drop_left]
    rw [hdrop, hdrop2, List.take_left]
    have h2 := chunksN_at last fs g k10 k13 kl ks hl hg hm cs (pre ++ (h ++ [13, 10]) ++ (d ++ [13, 10])) rest (acc ++ d) n (fun c hx => hc c (by simp [hx])) (by simp only [List.length_append]; omega) (by simpa using hn)
    rw [← hR] at h2
    have e6 : pre ++ (h ++ [13, 10]) ++ (d ++ [13, 10]) ++ R = pre ++ (h ++ 13 :: 10 :: (d ++ 13 :: 10 :: R)) := by simp
    have e7 : (pre ++ (h ++ [13, 10]) ++ (d ++ [13, 10])).length = pre.length + h.length + 2 + d.length + 2 := by simp; omega
    rw [e6, e7] at h2
    rw [if_neg (by simp), if_neg (by simp), h2]
    simp only [chunkText, chunkData, List.length_append, List.length_cons, List.append_assoc]
    congr 2
    omega
/-- A request in chunks. -/
theorem read_chunks (l : Bytes) (fs : List Bytes) (m p : Bytes) (g : F) (h0 : Ln l) (hf : first l = some (m, p)) (hl : ∀ l ∈ fs, Ln l) (hg : fieldAll F.nil fs = some g) (hm : (l ++ 13 :: 10 :: rows fs).length ≤ 2000) (hn : length g = (none, 200))
    (last : Bytes) (fs2 : List Bytes) (g2 : F) (k10 : (10 : UInt8) ∉ last) (k13 : (13 : UInt8) ∉ last) (kl : last.length ≤ 90) (ks : size last = some 0) (hl2 : ∀ l ∈ fs2, Ln l) (hg2 : fieldAll F.nil fs2 = some g2) (hm2 : (rows fs2).length ≤ 2000)
    (cs : List (Bytes × Bytes)) (hc : ∀ c ∈ cs, ChunkOk c) (hd : (chunkData cs).length ≤ 8000) :
    read ((l ++ 13 :: 10 :: rows fs) ++ (chunkText cs ++ (last ++ 13 :: 10 :: rows fs2))) = (⟨m, p, chunkData cs, g.close⟩, ((l ++ 13 :: 10 :: rows fs) ++ (chunkText cs ++ (last ++ 13 :: 10 :: rows fs2))).length, 200) := by
  rw [read_at l fs _ m p g h0 hf hl hg hm]
  unfold read3
  rw [hn]
  simp only
  obtain ⟨H, hH⟩ : ∃ H, H = l ++ 13 :: 10 :: rows fs := ⟨_, rfl⟩
  rw [← hH]
  have h1 := chunksN_at last fs2 g2 k10 k13 kl ks hl2 hg2 hm2 cs H [] [] ((H ++ (chunkText cs ++ (last ++ 13 :: 10 :: rows fs2))).length + 1 - H.length) hc (by simpa using hd) (by
    have := chunkText_count cs
    simp only [List.length_append]; omega)
  rw [List.append_nil] at h1
  unfold chunks
  rw [h1]
  simp only [List.nil_append, if_pos]
  congr 2
  simp only [List.length_append]
end Hx
