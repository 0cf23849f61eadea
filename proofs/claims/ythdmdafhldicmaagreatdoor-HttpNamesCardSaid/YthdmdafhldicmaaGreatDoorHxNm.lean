/- Letters of field names, the order of fields, other fields. -/
import Derived.Test.YthdmdafhldicmaaGreatDoorHxRq
namespace Hx
def isLow (c : UInt8) : Bool := decide (97 ≤ c) && decide (c ≤ 122)
/-- Some letters are capital ones. -/
def lettersF (g : Nat → Bool) : Nat → Bytes → Bytes
  | _, [] => []
  | i, c :: s => (if isLow c && g i then c - 32 else c) :: lettersF g (i + 1) s
theorem lettersF_len (g : Nat → Bool) : ∀ (s : Bytes) (i : Nat), (lettersF g i s).length = s.length
  | [], _ => rfl
  | c :: s, i => by simp [lettersF, lettersF_len g s (i + 1)]
theorem lettersF_get (g : Nat → Bool) : ∀ (s : Bytes) (i k : Nat), (lettersF g i s)[k]? = (s[k]?).map fun c => if isLow c && g (i + k) then c - 32 else c
  | [], _, _ => by simp [lettersF]
  | c :: s, i, 0 => by simp [lettersF]
  | c :: s, i, k + 1 => by
    simp only [lettersF, List.getElem?_cons_succ]
    rw [lettersF_get g s (i + 1) k, show i + 1 + k = i + (k + 1) by omega]
/-- No capital letters, all of them may stand in a name. -/
def Plain (s : Bytes) : Prop := s.all (fun c => tokened c && !capital c) = true
theorem low_all : ∀ c : Fin 256, (isLow (UInt8.ofNat c.val) = true → capital (UInt8.ofNat c.val - 32) = true ∧ tokened (UInt8.ofNat c.val - 32) = true ∧ (UInt8.ofNat c.val - 32) ||| 32 = UInt8.ofNat c.val) := by decide +kernel
theorem low_one {c : UInt8} (h : isLow c = true) : capital (c - 32) = true ∧ tokened (c - 32) = true ∧ (c - 32) ||| 32 = c := by
  have := low_all ⟨c.toNat, c.toNat_lt⟩
  simp only [UInt8.ofNat_toNat] at this
  exact this h
theorem lettersF_lower (g : Nat → Bool) : ∀ (s : Bytes) (i : Nat), Plain s → lower (lettersF g i s) = s
  | [], _, _ => rfl
  | c :: s, i, h => by
    unfold Plain at h
    rw [List.all_cons, Bool.and_eq_true, Bool.and_eq_true, Bool.not_eq_true'] at h
    have ih := lettersF_lower g s (i + 1) h.2
    unfold lower at ih ⊢
    unfold lettersF
    rw [List.map_cons, ih]
    congr 1
    split
    · rename_i hc
      rw [Bool.and_eq_true] at hc
      have := low_one hc.1
      unfold lowerB; rw [if_pos this.1]; exact this.2.2
    · unfold lowerB; rw [if_neg (by rw [h.1.2]; decide)]
theorem lettersF_tok (g : Nat → Bool) : ∀ (s : Bytes) (i : Nat), Plain s → (lettersF g i s).all tokened = true
  | [], _, _ => rfl
  | c :: s, i, h => by
    unfold Plain at h
    rw [List.all_cons, Bool.and_eq_true, Bool.and_eq_true, Bool.not_eq_true'] at h
    unfold lettersF
    rw [List.all_cons, lettersF_tok g s (i + 1) h.2, Bool.and_true]
    split
    · rename_i hc
      rw [Bool.and_eq_true] at hc
      exact (low_one hc.1).2.1
    · exact h.1.1
theorem plainHost : Plain tHost := by unfold Plain; decide
theorem plainLength : Plain tLength := by unfold Plain; decide
theorem plainConnection : Plain tConnection := by unfold Plain; decide
/-- The three fields; rotated. -/
def nmF (a b c : Bytes) : Nat → List (Bytes × Bytes)
  | 0 => [(a, [32, 104]), (b, [51, 32]), (c, [9, 99, 108, 111, 115, 101])]
  | 1 => [(b, [51, 32]), (c, [9, 99, 108, 111, 115, 101]), (a, [32, 104])]
  | _ => [(c, [9, 99, 108, 111, 115, 101]), (a, [32, 104]), (b, [51, 32])]
def tPut : Bytes := [80, 85, 84]
def tAbc : Bytes := [97, 98, 99]
def nmHead (fs : List (Bytes × Bytes)) : Bytes := (tPut ++ 32 :: ([47, 120] ++ tVersion)) ++ 13 :: 10 :: rows (fs.map fl)
def Nm (n : Bytes) (s : Bytes) : Prop := lower n = s ∧ n.all tokened = true ∧ n.length = s.length ∧ n ≠ []
theorem nm_of (g : Nat → Bool) {s : Bytes} (h : Plain s) (hs : s ≠ []) : Nm (lettersF g 0 s) s :=
  ⟨lettersF_lower g s 0 h, lettersF_tok g s 0 h, lettersF_len g s 0, fun e => hs (by have := lettersF_len g s 0; rw [e] at this; exact List.length_eq_zero_iff.1 this.symm)⟩
theorem nmF_ok {a b c : Bytes} (ha : Nm a tHost) (hb : Nm b tLength) (hc : Nm c tConnection) : ∀ k, ∀ x ∈ nmF a b c k, Fok x := by
  have h1 : Fok (a, [32, 104]) := ⟨ha.2.2.2, ha.2.1, by show ([32, 104] : Bytes).all valued = true; decide⟩
  have h2 : Fok (b, [51, 32]) := ⟨hb.2.2.2, hb.2.1, by show ([51, 32] : Bytes).all valued = true; decide⟩
  have h3 : Fok (c, [9, 99, 108, 111, 115, 101]) := ⟨hc.2.2.2, hc.2.1, by show ([9, 99, 108, 111, 115, 101] : Bytes).all valued = true; decide⟩
  intro k x hx
  match k with
  | 0 => simp only [nmF, List.mem_cons, List.not_mem_nil, or_false] at hx; rcases hx with rfl | rfl | rfl <;> assumption
  | 1 => simp only [nmF, List.mem_cons, List.not_mem_nil, or_false] at hx; rcases hx with rfl | rfl | rfl <;> assumption
  | _ + 2 => simp only [nmF, List.mem_cons, List.not_mem_nil, or_false] at hx; rcases hx with rfl | rfl | rfl <;> assumption
def vOf : Nat → List Bytes
  | 0 => [tHost, tLength, tConnection]
  | 1 => [tLength, tConnection, tHost]
  | _ => [tConnection, tHost, tLength]
def wOf : Nat → List Bytes
  | 0 => [[104], [51], tClose]
  | 1 => [[51], tClose, [104]]
  | _ => [tClose, [104], [51]]
theorem nmF_fold {a b c : Bytes} (ha : Nm a tHost) (hb : Nm b tLength) (hc : Nm c tConnection) : ∀ k, (nmF a b c k).foldl addF F.nil = ⟨vOf k, wOf k, true⟩ := by
  have e1 : trim [32, 104] = [104] := by decide
  have e2 : trim [51, 32] = [51] := by decide
  have e3 : trim [9, 99, 108, 111, 115, 101] = tClose := by decide
  have d1 : decide (tHost = tConnection) = false := by decide
  have d2 : decide (tLength = tConnection) = false := by decide
  have d3 : closes tClose = true := by decide
  intro k
  match k with
  | 0 => simp only [nmF, List.foldl_cons, List.foldl_nil, addF, F.nil, ha.1, hb.1, hc.1, e1, e2, e3, d1, d2, d3, vOf, wOf]; simp
  | 1 => simp only [nmF, List.foldl_cons, List.foldl_nil, addF, F.nil, ha.1, hb.1, hc.1, e1, e2, e3, d1, d2, d3, vOf, wOf]; simp
  | _ + 2 => simp only [nmF, List.foldl_cons, List.foldl_nil, addF, F.nil, ha.1, hb.1, hc.1, e1, e2, e3, d1, d2, d3, vOf, wOf]; simp
theorem dec3 : dec 3 = [51] := by rw [dec_lt (by decide)]; rfl
theorem nm_len (k : Nat) (x v : List Bytes) (hx : ∀ y ∈ x, y ≠ tHost ∧ y ≠ tLength ∧ y ≠ tEncoding) : length ⟨vOf k ++ x, wOf k ++ v, true⟩ = (some 3, 200) := by
  have cnt : ∀ n, (n = tHost ∨ n = tLength ∨ n = tEncoding) → count ⟨vOf k ++ x, wOf k ++ v, true⟩ n = ((vOf k).filter fun m => decide (m = n)).length := by
    intro n hn
    unfold count
    simp only
    rw [List.filter_append, List.length_append]
    have : (x.filter fun m => decide (m = n)) = [] := by
      rw [List.filter_eq_nil_iff]
      intro y hy he
      have he := of_decide_eq_true he
      have := hx y hy
      rcases hn with rfl | rfl | rfl
      · exact this.1 he
      · exact this.2.1 he
      · exact this.2.2 he
    rw [this]; rfl
  have hnx : ([99, 111, 110, 116, 101, 110, 116, 45, 108, 101, 110, 103, 116, 104] : Bytes) ∉ x := fun h => (hx _ h).2.1 rfl
  have hv : F.value ⟨vOf k ++ x, wOf k ++ v, true⟩ tLength = [51] := by
    unfold F.value
    simp only
    match k with
    | 0 => simp [vOf, wOf, lastOf, hnx, tHost, tLength, tConnection]
    | 1 => simp [vOf, wOf, lastOf, hnx, tHost, tLength, tConnection]
    | _ + 2 => simp [vOf, wOf, lastOf, hnx, tHost, tLength, tConnection]
  have h1 : ((vOf k).filter fun m => decide (m = tHost)).length = 1 := by match k with | 0 => decide | 1 => decide | _ + 2 => exact (show ((vOf 2).filter fun m => decide (m = tHost)).length = 1 by decide)
  have h2 : ((vOf k).filter fun m => decide (m = tLength)).length = 1 := by match k with | 0 => decide | 1 => decide | _ + 2 => exact (show ((vOf 2).filter fun m => decide (m = tLength)).length = 1 by decide)
  have h3 : ((vOf k).filter fun m => decide (m = tEncoding)).length = 0 := by match k with | 0 => decide | 1 => decide | _ + 2 => exact (show ((vOf 2).filter fun m => decide (m = tEncoding)).length = 0 by decide)
  exact length_len (by rw [cnt _ (.inl rfl), h1]) (by rw [cnt _ (.inr (.inl rfl)), h2]) (by rw [cnt _ (.inr (.inr rfl)), h3]) (by rw [hv, dec3]) (by decide)
theorem rows_length : ∀ (l : List Bytes), (rows l).length = 2 + (l.map fun y => y.length + 2).sum
  | [] => rfl
  | a :: l => by simp only [rows, List.length_append, List.length_cons, rows_length l, List.map_cons, List.sum_cons]; omega
theorem nmF_size {a b c : Bytes} (ha : Nm a tHost) (hb : Nm b tLength) (hc : Nm c tConnection) (k : Nat) : (((nmF a b c k).map fl).map fun y => y.length + 2).sum ≤ 60 := by
  have l1 := ha.2.2.1; have l2 := hb.2.2.1; have l3 := hc.2.2.1
  have t1 : tHost.length = 4 := rfl
  have t2 : tLength.length = 14 := rfl
  have t3 : tConnection.length = 10 := rfl
  match k with
  | 0 => simp only [nmF, List.map_cons, List.map_nil, List.sum_cons, List.sum_nil, fl, List.length_append, List.length_cons, List.length_nil]; omega
  | 1 => simp only [nmF, List.map_cons, List.map_nil, List.sum_cons, List.sum_nil, fl, List.length_append, List.length_cons, List.length_nil]; omega
  | _ + 2 => simp only [nmF, List.map_cons, List.map_nil, List.sum_cons, List.sum_nil, fl, List.length_append, List.length_cons, List.length_nil]; omega
/-- The request with the fields in some order, and with another field behind. -/
theorem read_nm {a b c : Bytes} (ha : Nm a tHost) (hb : Nm b tLength) (hc : Nm c tConnection) (k : Nat) (ex : List (Bytes × Bytes)) (hex : ∀ x ∈ ex, Fok x)
    (hne : ∀ x ∈ ex, lower x.1 ≠ tHost ∧ lower x.1 ≠ tLength ∧ lower x.1 ≠ tEncoding) (hs : ((ex.map fl).map fun y => y.length + 2).sum ≤ 1000) :
    read (nmHead (nmF a b c k ++ ex) ++ tAbc) = (⟨tPut, [47, 120], tAbc, true⟩, (nmHead (nmF a b c k ++ ex) ++ tAbc).length, 200) := by
  have hok : ∀ x ∈ nmF a b c k ++ ex, Fok x := by
    intro x hx
    rcases List.mem_append.1 hx with hx | hx
    · exact nmF_ok ha hb hc k x hx
    · exact hex x hx
  have hall := fieldAll_map (nmF a b c k ++ ex) F.nil hok
  have hfold : ∀ (l : List (Bytes × Bytes)) (ns vs : List Bytes), ∃ v, l.foldl addF ⟨ns, vs, true⟩ = ⟨ns ++ l.map (fun x => lower x.1), vs ++ v, true⟩ := by
    intro l
    induction l with
    | nil => intro ns vs; exact ⟨[], by simp⟩
    | cons y l ih =>
      intro ns vs
      obtain ⟨v, hv⟩ := ih (ns ++ [lower y.1]) (vs ++ [trim y.2])
      refine ⟨trim y.2 :: v, ?_⟩
      simp only [List.foldl_cons, addF, Bool.true_or]
      rw [hv]; simp
  rw [List.foldl_append, nmF_fold ha hb hc k] at hall
  obtain ⟨v, hv⟩ := hfold ex (vOf k) (wOf k)
  rw [hv] at hall
  have hlen := nm_len k (ex.map fun x => lower x.1) v (fun y hy => by
    obtain ⟨x, hx, rfl⟩ := List.mem_map.1 hy
    exact hne x hx)
  have hsz := nmF_size ha hb hc k
  have h := read_len (tPut ++ 32 :: ([47, 120] ++ tVersion)) ((nmF a b c k ++ ex).map fl) tAbc tPut [47, 120] ⟨vOf k ++ ex.map (fun x => lower x.1), wOf k ++ v, true⟩
    (first_ln (by decide) (by decide) (by decide)) (first_at (by decide) (by decide) (by decide) rfl (by decide)) (fl_ln hok) hall
    (by
      rw [List.length_append, List.length_cons, List.length_cons, rows_length, List.map_append, List.map_append, List.sum_append]
      have : (tPut ++ 32 :: ([47, 120] ++ tVersion)).length = 15 := rfl
      omega) hlen
  exact h
/-- The other field: 'X-' and a method, a path. -/
theorem other_ok (n v : Bytes) : Fok ([88, 45] ++ methodOf n, 32 :: pathOf v) ∧ lower ([88, 45] ++ methodOf n) ≠ tHost ∧ lower ([88, 45] ++ methodOf n) ≠ tLength ∧ lower ([88, 45] ++ methodOf n) ≠ tEncoding := by
  obtain ⟨m1, m2, m3⟩ := methodOf_ok n
  obtain ⟨p1, p2, p3⟩ := pathOf_ok v
  have hl : lower ([88, 45] ++ methodOf n) = 120 :: 45 :: lower (methodOf n) := rfl
  refine ⟨⟨by simp, ?_, ?_⟩, ?_, ?_, ?_⟩
  · show ([88, 45] ++ methodOf n).all tokened = true
    rw [List.all_append, Bool.and_eq_true]
    refine ⟨by decide, ?_⟩
    rw [List.all_eq_true]
    intro c hc
    have := List.all_eq_true.1 m3 c hc
    unfold tokened
    rw [this]; simp
  · show (32 :: pathOf v).all valued = true
    rw [List.all_cons, Bool.and_eq_true]
    refine ⟨by decide, ?_⟩
    rw [List.all_eq_true]
    intro c hc
    have := List.all_eq_true.1 p3 c hc
    unfold valued
    rw [this]; rfl
  · rw [hl]; simp [tHost]
  · rw [hl]; simp [tLength]
  · rw [hl]; simp [tEncoding]
end Hx
