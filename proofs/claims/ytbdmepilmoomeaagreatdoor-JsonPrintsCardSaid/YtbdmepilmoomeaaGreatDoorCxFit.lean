/- What is read of a text has no longer texts and lists than it; how long a value is that is written. -/
import Derived.Test.YtbdmepilmoomeaaGreatDoorCxBack
import Derived.Test.YtbdmepilmoomeaaGreatDoorCxPrint
namespace Cx
mutual
/-- All texts and lists are at most so long. -/
def fit (L : Nat) : J → Prop
  | .mk _ _ t ns ks => t.length ≤ L ∧ ns.length ≤ L ∧ (∀ n ∈ ns, n.length ≤ L) ∧ ks.length ≤ L ∧ fitK L ks
def fitK (L : Nat) : List J → Prop
  | [] => True
  | k :: ks => fit L k ∧ fitK L ks
end
theorem fitK_snoc {L : Nat} {k : J} : ∀ {ks : List J}, fitK L ks → fit L k → fitK L (ks ++ [k])
  | [], _, hk => by unfold fitK; exact ⟨hk, by simp [fitK]⟩
  | a :: ks, h, hk => by
    unfold fitK at h
    show fitK L (a :: (ks ++ [k]))
    unfold fitK
    exact ⟨h.1, fitK_snoc h.2 hk⟩

theorem enc_length {v : Nat} (h : v < 65536) : (enc v).length ≤ 3 := by
  unfold enc
  split
  · simp
  · split <;> simp
theorem enc_length4 (v : Nat) : (enc v).length ≤ 4 := by
  unfold enc
  split
  · simp
  · split
    · simp
    · split <;> simp
theorem escape_length {s b : Bytes} {i j : Nat} (h : escape s i = .ok (b, j)) : i + b.length ≤ j := by
  unfold escape at h
  split at h
  · injection h with h; injection h with h1 h2; subst h1 h2; simp
  · split at h
    · cases h
    · rename_i v hv
      have hvl := (unit_ok hv).2
      split at h
      · split at h
        · cases h
        · split at h
          · injection h with h; injection h with h1 h2; subst h1 h2
            have := enc_length4 (0x10000 + (v - 0xD800) * 1024 + (by assumption - 0xDC00))
            omega
          · cases h
      · split at h
        · cases h
        · injection h with h; injection h with h1 h2; subst h1 h2
          have := enc_length hvl; omega
theorem textN_length (s : Bytes) : ∀ (n i : Nat) (acc b : Bytes) (j : Nat), textN s n i acc = .ok (b, j) → b.length + i ≤ acc.length + j
  | 0, i, acc, b, j, h => by unfold textN at h; cases h
  | n + 1, i, acc, b, j, h => by
    rw [textN_succ] at h
    split at h
    · cases h
    · split at h
      · injection h with h; injection h with h1 h2; subst h1 h2; omega
      · split at h
        · split at h
          · cases h
          · rename_i b' j' he
            have h1 := escape_length he
            have := textN_length s n _ _ _ _ h
            simp only [List.length_append] at this; omega
        · split at h
          · cases h
          · have := textN_length s n _ _ _ _ h
            simp only [List.length_append, List.length_take] at this; omega
theorem text_length {s b : Bytes} {i j : Nat} (h : text s i = .ok (b, j)) : b.length + i ≤ j := by
  unfold text at h
  split at h
  · have := textN_length s _ _ _ _ _ h
    simp at this; omega
  · cases h
theorem name_length {s t : Bytes} {l : List Bytes} {i j : Nat} (h : name s l i = .ok (t, j)) : t.length ≤ s.length := by
  unfold name at h
  split at h
  · cases h
  · rename_i t' k ht
    split at h
    · cases h
    · split at h
      · cases h
      · injection h with h; injection h with h1 h2; subst h1
        have := text_length ht; have := text_ok ht; omega

/-- A reader of values that reads none with a longer text or list than the whole text. -/
def Fits (s : Bytes) (val : Nat → Nat → Res (J × Nat × Nat)) : Prop :=
  ∀ i m v j m', i ≤ s.length → m ≤ 5000 → val i m = .ok (v, j, m') → fit s.length v

theorem parts_fit {s : Bytes} {d : Nat} {val : Nat → Nat → Res (J × Nat × Nat)} (hv : Fine s (d + 1) val) (hf : Fits s val) (obj : Bool) :
    ∀ (n i m : Nat) (ns : List Bytes) (ks : List J), i ≤ s.length → m ≤ 5000 → ns.length ≤ i → (∀ x ∈ ns, x.length ≤ s.length) → ks.length ≤ i → fitK s.length ks →
      ∀ v j m', parts val s obj n i m ns ks = .ok (v, j, m') → fit s.length v
  | 0, i, m, ns, ks, _, _, _, _, _, _, v, j, m', h => by unfold parts at h; cases h
  | n + 1, i, m, ns, ks, hi, hm, hnl, hn, hkl, hk, v, j, m', h => by
    unfold parts at h
    cases h1 : (if obj = true then name s ns i else Except.ok ([], i)) with
    | error e => rw [h1] at h; cases h
    | ok a =>
      obtain ⟨t, i1⟩ := a
      rw [h1] at h
      simp only at h
      have hi1 : i ≤ i1 ∧ i1 ≤ s.length ∧ t.length ≤ s.length := by
        cases obj with
        | true => have := name_ok h1; have := name_length h1; omega
        | false => injection h1 with h1; injection h1 with h0 h1; subst h0; subst h1; simp; omega
      cases h2 : val i1 m with
      | error e => rw [h2] at h; cases h
      | ok b =>
        obtain ⟨k, i2, m2⟩ := b
        rw [h2] at h
        simp only at h
        have hkf := hf _ _ _ _ _ hi1.2.1 hm h2
        have hko := hv.ok _ _ _ _ _ hi1.2.1 hm h2
        have hsb := skipB_le (s := s) (i := i2)
        have hsl := skipB_len hko.2.1
        have hk' : fitK s.length (ks ++ [k]) := fitK_snoc hk hkf
        have hn' : ∀ x ∈ (if obj = true then ns ++ [t] else ns), x.length ≤ s.length := by
          intro x hx
          cases obj with
          | true =>
            simp only [if_true, List.mem_append, List.mem_singleton] at hx
            rcases hx with hx | rfl
            · exact hn x hx
            · exact hi1.2.2
          | false => exact hn x (by simpa using hx)
        have hnl' : (if obj = true then ns ++ [t] else ns).length ≤ ns.length + 1 := by
          cases obj <;> simp
        split at h
        · rename_i hc
          have hlt := peek_lt (s := s) (i := skipB s i2) (by rw [hc]; decide)
          exact parts_fit hv hf obj n (skipB s i2 + 1) m2 _ _ (by omega) hko.2.2.2.1 (by omega) hn' (by simp; omega) hk' v j m' h
        · cases h3 : word s [if obj = true then 125 else 93] (skipB s i2) with
          | error e => rw [h3] at h; cases h
          | ok j' =>
            rw [h3] at h
            simp only at h
            injection h with h; injection h with e1 h
            subst e1
            unfold fit
            exact ⟨by simp, by omega, hn', by simp; omega, hk'⟩

theorem word_skip {s w : Bytes} {i m : Nat} {v v' : J} {j m' : Nat} (hv : fit s.length v) (h : (match word s w i with | .error e => .error e | .ok k => .ok (v, k, m) : Res (J × Nat × Nat)) = .ok (v', j, m')) : fit s.length v' := by
  cases hw : word s w i with
  | error e => rw [hw] at h; cases h
  | ok k => rw [hw] at h; injection h with h; injection h with e1 h; subst e1; exact hv
theorem fit_leaf {L : Nat} {k : Int} {b : Bool} {t : Bytes} (h : t.length ≤ L) : fit L (.mk k b t [] []) := by
  unfold fit; exact ⟨h, by simp, by simp, by simp, by simp [fitK]⟩

theorem value_fit (s : Bytes) : ∀ (n d : Nat), d ≤ 20 → Fits s (fun i m => value s n d i m)
  | 0, d, _ => fun _ _ _ _ _ _ _ h => by simp only [value] at h; cases h
  | n + 1, d, hd => by
    intro i m v j m' hi hm h
    have hle := skipB_le (s := s) (i := i)
    have hlen := skipB_len hi
    simp only [value] at h
    generalize skipB s i = p at *
    split at h
    · cases h
    · rename_i hst
      have hst : starts (peek s p) = true := by simpa using hst
      have hplt := peek_lt (starts_ne hst).2.2
      split at h
      · cases h
      · split at h
        · exact word_skip (fit_leaf (by simp)) h
        · split at h
          · exact word_skip (fit_leaf (by simp)) h
          · split at h
            · exact word_skip (fit_leaf (by simp)) h
            · split at h
              · cases ht : text s p with
                | error e => rw [ht] at h; cases h
                | ok a =>
                  obtain ⟨t, k⟩ := a
                  rw [ht] at h
                  injection h with h; injection h with e1 h
                  subst e1
                  have := text_length ht; have := text_ok ht
                  exact fit_leaf (by omega)
              · split at h
                · split at h
                  · cases h
                  · have hf := value_fine s n (d + 1) (by omega)
                    have hft := value_fit s n (d + 1) (by omega)
                    have hsb := skipB_le (s := s) (i := p + 1)
                    have hsl := skipB_len (s := s) (i := p + 1) (by omega)
                    unfold group at h
                    by_cases hc : peek s (skipB s (p + 1)) = (if decide (peek s p = 123) = true then 125 else 93)
                    · rw [if_pos hc] at h
                      injection h with h; injection h with e1 h
                      subst e1
                      exact fit_leaf (by simp)
                    · rw [if_neg hc] at h
                      exact parts_fit hf hft _ _ _ _ _ _ (by omega) (by omega) (by simp) (by simp) (by simp) (by simp [fitK]) _ _ _ h
                · cases hn : number s p with
                  | error e => rw [hn] at h; cases h
                  | ok k =>
                    rw [hn] at h
                    injection h with h; injection h with e1 h
                    subst e1
                    have := number_ok hn
                    exact fit_leaf (by simp; omega)

theorem parse_fit {s : Bytes} {v : J} (h : parse s = .ok v) : fit s.length v := by
  unfold parse at h
  split at h
  · cases h
  · split at h
    · cases h
    · rename_i v' i m' hv
      have := value_fit s (s.length + 1) 0 (by omega) 0 0 _ _ _ (by omega) (by omega) hv
      split at h
      · cases h
      · injection h with h; subst h; exact this

theorem escB_length (c : UInt8) : (escB c).length ≤ 6 := by
  unfold escB
  repeat (split; simp)
  simp
theorem esc_length6 (t : Bytes) : (esc t).length ≤ 6 * t.length := by
  induction t with
  | nil => simp [esc]
  | cons c t ih =>
    have := escB_length c
    simp only [esc, List.flatMap_cons, List.length_append, List.length_cons] at *
    omega
theorem jtext_length (t : Bytes) : (jtext t).length ≤ 6 * t.length + 2 := by
  have := esc_length6 t
  simp only [jtext, List.length_cons, List.length_append, List.length_nil]; omega
mutual
theorem pr_length (L : Nat) : ∀ v : J, fit L v → (pr v).length + (6 * L + 4) ≤ (12 * L + 20) * nodes v
  | .mk k is t ns ks, h => by
    unfold fit at h
    have hK := fun o => prK_length L ks o true ns h.2.2.1 h.2.2.2.2
    have ht := jtext_length t
    have e : (12 * L + 20) * nodes (.mk k is t ns ks) = (12 * L + 20) + (12 * L + 20) * nodesK ks := by
      simp only [nodes]; rw [Nat.mul_add]; omega
    rw [e]
    unfold pr
    split
    · simp; omega
    · split
      · split <;> simp <;> omega
      · split
        · omega
        · split
          · omega
          · split
            · have := hK true
              simp only [List.length_cons, List.length_append, List.length_nil]; omega
            · have := hK false
              simp only [List.length_cons, List.length_append, List.length_nil]; omega
theorem prK_length (L : Nat) : ∀ (ks : List J) (o f : Bool) (ns : List Bytes), (∀ n ∈ ns, n.length ≤ L) → fitK L ks → (prK o f ns ks).length ≤ (12 * L + 20) * nodesK ks
  | [], o, f, ns, _, _ => by unfold prK; simp
  | k :: ks, o, f, ns, hn, h => by
    unfold fitK at h
    have h1 := pr_length L k h.1
    have h2 := prK_length L ks o false ns.tail (fun n hm => hn n (List.mem_of_mem_tail hm)) h.2
    have h3 : (jtext (ns.headD [])).length ≤ 6 * L + 2 := by
      have := jtext_length (ns.headD [])
      cases ns with
      | nil => simp at this ⊢; omega
      | cons a l => have := hn a (by simp); simp at *; omega
    have e : (12 * L + 20) * nodesK (k :: ks) = (12 * L + 20) * nodes k + (12 * L + 20) * nodesK ks := by
      simp only [nodesK]; rw [Nat.mul_add]
    rw [e]
    unfold prK
    simp only [List.length_append]
    have h4 : (if f = true then ([] : Bytes) else [44]).length ≤ 1 := by split <;> simp
    have h5 : (if o = true then jtext (ns.headD []) ++ [58] else []).length ≤ 6 * L + 3 := by
      split
      · rw [List.length_append, List.length_singleton]; omega
      · simp
    omega
end
end Cx
