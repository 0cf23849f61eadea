/- A request with a length, and the same in chunks. -/
import Derived.Test.YthdmdafhldicmaaGreatDoorHxRq
namespace Hx
def bdH : Bytes × Bytes := ([104, 79, 115, 116], [9, 120, 32, 121, 32])
def bdC : Bytes × Bytes := ([67, 111, 110, 110, 101, 99, 116, 105, 111, 110], [32, 107, 101, 101, 112, 45, 97, 108, 105, 118, 101, 32, 44, 32, 67, 76, 79, 83, 69])
def bdL (n : Nat) : Bytes × Bytes := ([67, 111, 110, 116, 101, 110, 116, 45, 76, 101, 110, 103, 116, 104], 32 :: dec n)
def bdT : Bytes × Bytes := ([116, 114, 97, 110, 115, 102, 101, 114, 45, 101, 110, 99, 111, 100, 105, 110, 103], [67, 104, 117, 110, 107, 101, 100])
def bdF (cl : Bool) (x : Bytes × Bytes) : List (Bytes × Bytes) := bdH :: (if cl then [bdC, x] else [x])
theorem bdH_ok : Fok bdH := ⟨by simp [bdH], by decide, by decide⟩
theorem bdC_ok : Fok bdC := ⟨by simp [bdC], by decide, by decide⟩
theorem bdT_ok : Fok bdT := ⟨by simp [bdT], by decide, by decide⟩
theorem bdL_ok (n : Nat) : Fok (bdL n) := by
  refine ⟨by simp [bdL], (show ([67, 111, 110, 116, 101, 110, 116, 45, 76, 101, 110, 103, 116, 104] : Bytes).all tokened = true by decide), ?_⟩
  show (32 :: dec n).all valued = true
  rw [List.all_cons, dec_valued]; rfl
theorem bdF_ok (cl : Bool) {x : Bytes × Bytes} (hx : Fok x) : ∀ y ∈ bdF cl x, Fok y := by
  intro y hy
  cases cl with
  | true =>
    simp only [bdF, if_pos, List.mem_cons, List.not_mem_nil, or_false] at hy
    rcases hy with rfl | rfl | rfl
    · exact bdH_ok
    · exact bdC_ok
    · exact hx
  | false =>
    simp only [bdF, Bool.false_eq_true, if_false, List.mem_cons, List.not_mem_nil, or_false] at hy
    rcases hy with rfl | rfl
    · exact bdH_ok
    · exact hx
def bdHead (m p : Bytes) (cl : Bool) (x : Bytes × Bytes) : Bytes := (m ++ 32 :: (p ++ tVersion)) ++ 13 :: 10 :: rows ((bdF cl x).map fl)
theorem bd_fold (cl : Bool) (n v : Bytes) (ln : Bytes) (hl : lower n = ln) (hc : (decide (ln = tConnection)) = false) : (bdF cl (n, v)).foldl addF F.nil = ⟨if cl then [tHost, tConnection, ln] else [tHost, ln], if cl then [trim bdH.2, trim bdC.2, trim v] else [trim bdH.2, trim v], cl⟩ := by
  have e1 : lower bdH.1 = tHost := by decide
  have e2 : lower bdC.1 = tConnection := by decide
  have d1 : decide (tHost = tConnection) = false := by decide
  have d3 : closes (trim bdC.2) = true := by decide
  cases cl with
  | true => simp only [bdF, if_pos, List.foldl_cons, List.foldl_nil, addF, F.nil, e1, e2, hl, d1, d3, hc]; simp
  | false => simp only [bdF, Bool.false_eq_true, if_false, List.foldl_cons, List.foldl_nil, addF, F.nil, e1, hl, d1, hc]; simp
theorem bd_len (cl : Bool) (n : Nat) (hn : n ≤ 8000) : length ((bdF cl (bdL n)).foldl addF F.nil) = (some n, 200) ∧ ((bdF cl (bdL n)).foldl addF F.nil).close = cl := by
  have ht : trim (32 :: dec n) = dec n := by simpa using trim_dec [32] [] n (by decide) (by decide)
  have e := bd_fold cl [67, 111, 110, 116, 101, 110, 116, 45, 76, 101, 110, 103, 116, 104] (32 :: dec n) tLength (by decide) (by decide)
  rw [ht] at e
  show length ((bdF cl ([67, 111, 110, 116, 101, 110, 116, 45, 76, 101, 110, 103, 116, 104], 32 :: dec n)).foldl addF F.nil) = _ ∧ ((bdF cl ([67, 111, 110, 116, 101, 110, 116, 45, 76, 101, 110, 103, 116, 104], 32 :: dec n)).foldl addF F.nil).close = _
  rw [e]
  refine ⟨?_, rfl⟩
  cases cl with
  | true => exact length_len (show ([tHost, tConnection, tLength].filter fun m => decide (m = tHost)).length = 1 by decide) (show ([tHost, tConnection, tLength].filter fun m => decide (m = tLength)).length = 1 by decide) (show ([tHost, tConnection, tLength].filter fun m => decide (m = tEncoding)).length = 0 by decide) rfl hn
  | false => exact length_len (show ([tHost, tLength].filter fun m => decide (m = tHost)).length = 1 by decide) (show ([tHost, tLength].filter fun m => decide (m = tLength)).length = 1 by decide) (show ([tHost, tLength].filter fun m => decide (m = tEncoding)).length = 0 by decide) rfl hn
theorem bd_chunk (cl : Bool) : length ((bdF cl bdT).foldl addF F.nil) = (none, 200) ∧ ((bdF cl bdT).foldl addF F.nil).close = cl := by
  cases cl <;> exact ⟨by decide, by decide⟩
theorem bd_size (m p : Bytes) (cl : Bool) (x : Bytes × Bytes) (hm : m.length ≤ 10) (hp : p.length ≤ 301) (hx : x.1.length + x.2.length ≤ 100) : (bdHead m p cl x).length ≤ 700 := by
  unfold bdHead
  cases cl with
  | true =>
    simp only [bdF, if_pos, List.map_cons, List.map_nil, rows, fl, List.length_append, List.length_cons, lf, List.length_nil, tVersion, bdH, bdC]
    omega
  | false =>
    simp only [bdF, Bool.false_eq_true, if_false, List.map_cons, List.map_nil, rows, fl, List.length_append, List.length_cons, lf, List.length_nil, tVersion, bdH]
    omega
/-- The one with a length. -/
theorem read_one {m p : Bytes} (hm0 : m ≠ []) (hm1 : m.length ≤ 10) (hm2 : m.all capital = true) (hp0 : p.head? = some 47) (hp1 : p.length ≤ 301) (hp2 : p.all visible = true) (cl : Bool) (body : Bytes) (hb : body.length ≤ 8000) :
    read (bdHead m p cl (bdL body.length) ++ body) = (⟨m, p, body, cl⟩, (bdHead m p cl (bdL body.length) ++ body).length, 200) := by
  obtain ⟨h1, h2⟩ := bd_len cl body.length hb
  have hd := dec_len 4 body.length (by omega)
  have hs := bd_size m p cl (bdL body.length) hm1 hp1 (by simp only [bdL, List.length_cons, List.length_nil]; omega)
  have h := read_len (m ++ 32 :: (p ++ tVersion)) ((bdF cl (bdL body.length)).map fl) body m p _ (first_ln hm0 hm2 hp2) (first_at hm0 hm1 hm2 hp0 hp2) (fl_ln (bdF_ok cl (bdL_ok _))) (fieldAll_map _ _ (bdF_ok cl (bdL_ok _))) (Nat.le_trans hs (by decide)) h1
  rw [h2] at h
  exact h
def tLast : Bytes := [48, 59, 97, 61, 98]
def tTail : List (Bytes × Bytes) := [([88], [32, 121])]
theorem tTail_ok : ∀ x ∈ tTail, Fok x := by
  intro x hx
  obtain rfl := List.mem_singleton.1 hx
  exact ⟨by simp, by decide, by decide⟩
/-- The one in chunks. -/
theorem read_two {m p : Bytes} (hm0 : m ≠ []) (hm1 : m.length ≤ 10) (hm2 : m.all capital = true) (hp0 : p.head? = some 47) (hp1 : p.length ≤ 301) (hp2 : p.all visible = true) (cl : Bool) (cs : List (Bytes × Bytes)) (hc : ∀ c ∈ cs, ChunkOk c) (hb : (chunkData cs).length ≤ 8000) :
    read (bdHead m p cl bdT ++ (chunkText cs ++ (tLast ++ 13 :: 10 :: rows (tTail.map fl)))) = (⟨m, p, chunkData cs, cl⟩, (bdHead m p cl bdT ++ (chunkText cs ++ (tLast ++ 13 :: 10 :: rows (tTail.map fl)))).length, 200) := by
  obtain ⟨h1, h2⟩ := bd_chunk cl
  have hs := bd_size m p cl bdT hm1 hp1 (by decide)
  have h := read_chunks (m ++ 32 :: (p ++ tVersion)) ((bdF cl bdT).map fl) m p _ (first_ln hm0 hm2 hp2) (first_at hm0 hm1 hm2 hp0 hp2) (fl_ln (bdF_ok cl bdT_ok)) (fieldAll_map _ _ (bdF_ok cl bdT_ok)) (Nat.le_trans hs (by decide)) h1
    tLast (tTail.map fl) _ (by decide) (by decide) (by decide) (by decide) (fl_ln tTail_ok) (fieldAll_map _ _ tTail_ok) (by decide) cs hc hb
  rw [h2] at h
  exact h
theorem chunkText_snoc : ∀ (cs : List (Bytes × Bytes)) (h d : Bytes), chunkText (cs ++ [(h, d)]) = chunkText cs ++ (h ++ [13, 10] ++ d ++ [13, 10])
  | [], h, d => by simp [chunkText]
  | (a, b) :: cs, h, d => by simp [chunkText, chunkText_snoc cs h d]
theorem chunkData_snoc : ∀ (cs : List (Bytes × Bytes)) (h d : Bytes), chunkData (cs ++ [(h, d)]) = chunkData cs ++ d
  | [], h, d => by simp [chunkData]
  | (a, b) :: cs, h, d => by simp [chunkData, chunkData_snoc cs h d]
theorem read_not {s : Bytes} (h : (read s).2.2 ≠ 200) : read s = (Q.nil, 0, (read s).2.2) := by
  revert h
  unfold read
  obtain ⟨l, e, i⟩ := topN s (s.length + 1) 0
  simp only
  split
  · intro _; rfl
  · cases first l with
    | none => intro _; rfl
    | some mp =>
      obtain ⟨m, p⟩ := mp
      simp only
      obtain ⟨fo, e2, j⟩ := fields s i 2000
      cases fo with
      | none => intro _; rfl
      | some f =>
        simp only
        obtain ⟨no, e3⟩ := length f
        cases no with
        | none =>
          simp only
          split
          · intro h; exact absurd rfl h
          · intro _; rfl
        | some n =>
          simp only
          split
          · intro _; rfl
          · split
            · intro _; rfl
            · intro h; exact absurd rfl h

/-- A part without its last byte is not enough. -/
theorem read_less {s : Bytes} {q : Q} (h : read s = (q, s.length, 200)) (hs : 0 < s.length) : read (s.take (s.length - 1)) = (Q.nil, 0, 0) := by
  have h0 : (read (s.take (s.length - 1))).2.2 = 0 := by
    apply Classical.byContradiction
    intro h1
    have h2 := read_part s (s.length - 1) h1
    rw [h] at h2
    have h3 := read_le (s := s.take (s.length - 1)) (by rw [h2])
    rw [h2, List.length_take] at h3
    simp only at h3
    omega
  have h1 := read_not (s := s.take (s.length - 1)) (by rw [h0]; decide)
  rw [h0] at h1
  exact h1
end Hx
