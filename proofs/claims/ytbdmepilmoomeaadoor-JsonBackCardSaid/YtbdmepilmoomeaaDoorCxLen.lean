/- What is read of a text is written in at most six times as many bytes. -/
import Derived.Test.YtbdmepilmoomeaaDoorCxFit
namespace Cx

def kLen : List J → Nat
  | [] => 0
  | k :: ks => (pr k).length + 1 + kLen ks
def nLen : List Bytes → Nat
  | [] => 0
  | n :: ns => (jtext n).length + 1 + nLen ns
theorem kLen_snoc (k : J) : ∀ ks : List J, kLen (ks ++ [k]) = kLen ks + ((pr k).length + 1)
  | [] => by simp [kLen]
  | a :: ks => by
    have := kLen_snoc k ks
    show kLen (a :: (ks ++ [k])) = _
    simp only [kLen, this]; omega
theorem nLen_snoc (n : Bytes) : ∀ ns : List Bytes, nLen (ns ++ [n]) = nLen ns + ((jtext n).length + 1)
  | [] => by simp [nLen]
  | a :: ns => by
    have := nLen_snoc n ns
    show nLen (a :: (ns ++ [n])) = _
    simp only [nLen, this]; omega
theorem prK_len : ∀ (ks : List J) (o f : Bool) (ns : List Bytes), (o = true → ns.length = ks.length) → (prK o f ns ks).length ≤ kLen ks + nLen ns
  | [], o, f, ns, _ => by unfold prK; simp
  | k :: ks, o, f, ns, h => by
    unfold prK
    simp only [List.length_append, kLen]
    have h4 : (if f = true then ([] : Bytes) else [44]).length ≤ 1 := by split <;> simp
    cases o with
    | false =>
      have := prK_len ks false false ns.tail (fun h => by cases h)
      have h5 : nLen ns.tail ≤ nLen ns := by
        cases ns with
        | nil => simp
        | cons a l => simp only [List.tail_cons, nLen]; omega
      simp only [Bool.false_eq_true, if_false, List.length_nil]
      omega
    | true =>
      have hl := h rfl
      cases ns with
      | nil => simp at hl
      | cons a l =>
        have := prK_len ks true false l (fun _ => by simpa using hl)
        simp only [if_true, List.headD_cons, List.tail_cons, nLen, List.length_append, List.length_singleton]
        omega

theorem name_len {s t : Bytes} {l : List Bytes} {i j : Nat} (h : name s l i = .ok (t, j)) : (jtext t).length + 1 + 6 * i ≤ 6 * j := by
  have hb := skipB_le (s := s) (i := i)
  unfold name at h
  split at h
  · cases h
  · rename_i t' k ht
    split at h
    · cases h
    · split at h
      · cases h
      · rename_i k' hw
        injection h with h; injection h with h1 h2; subst h1; subst h2
        have h3 := text_length1 ht
        have h4 := jtext_length t'
        have h5 := skipB_le (s := s) (i := k)
        have h6 := (word_ok (by decide) (skipB_len (text_ok ht).2.1) hw).1
        simp only [List.length_singleton] at h6
        omega
where
  text_length1 {s b : Bytes} {i j : Nat} (h : text s i = .ok (b, j)) : b.length + (i + 1) ≤ j := by
    unfold text at h
    split at h
    · have := textN_length s _ _ _ _ _ h
      simpa using this
    · cases h

/-- A reader of values that are written in at most six times as many bytes as were read. -/
def Lens (s : Bytes) (val : Nat → Nat → Res (J × Nat × Nat)) : Prop :=
  ∀ i m v j m', i ≤ s.length → m ≤ 5000 → val i m = .ok (v, j, m') → (pr v).length + 6 * i ≤ 6 * j

theorem parts_len {s : Bytes} {d : Nat} {val : Nat → Nat → Res (J × Nat × Nat)} (hv : Fine s (d + 1) val) (hf : Lens s val) (obj : Bool) :
    ∀ (n i m : Nat) (ns : List Bytes) (ks : List J), i ≤ s.length → m ≤ 5000 → (obj = true → ns.length = ks.length) → (obj = false → ns = []) →
      ∀ v j m', parts val s obj n i m ns ks = .ok (v, j, m') → (pr v).length + 6 * i ≤ kLen ks + nLen ns + 6 * j
  | 0, i, m, ns, ks, _, _, _, _, v, j, m', h => by unfold parts at h; cases h
  | n + 1, i, m, ns, ks, hi, hm, ho, hl, v, j, m', h => by
    unfold parts at h
    cases h1 : (if obj = true then name s ns i else Except.ok ([], i)) with
    | error e => rw [h1] at h; cases h
    | ok a =>
      obtain ⟨t, i1⟩ := a
      rw [h1] at h
      simp only at h
      have hi1 : i ≤ i1 ∧ i1 ≤ s.length ∧ (obj = true → (jtext t).length + 1 + 6 * i ≤ 6 * i1) := by
        cases obj with
        | true => have h2 := name_ok h1; have h3 := name_len h1; exact ⟨by omega, h2.2.1, fun _ => h3⟩
        | false => injection h1 with h1; injection h1 with h0 h1; subst h1; exact ⟨Nat.le_refl _, hi, fun h => by cases h⟩
      cases h2 : val i1 m with
      | error e => rw [h2] at h; cases h
      | ok b =>
        obtain ⟨k, i2, m2⟩ := b
        rw [h2] at h
        simp only at h
        have hkl := hf _ _ _ _ _ hi1.2.1 hm h2
        have hko := hv.ok _ _ _ _ _ hi1.2.1 hm h2
        have hsb := skipB_le (s := s) (i := i2)
        have hsl := skipB_len hko.2.1
        have ho' : obj = true → (if obj = true then ns ++ [t] else ns).length = (ks ++ [k]).length := by
          intro he; have := ho he; subst he; simp [this]
        have hl' : obj = false → (if obj = true then ns ++ [t] else ns) = [] := by
          intro he; have := hl he; subst he; simpa using this
        have hnl : nLen (if obj = true then ns ++ [t] else ns) + 6 * i ≤ nLen ns + 6 * i1 := by
          cases obj with
          | true => simp only [if_true, nLen_snoc]; have := hi1.2.2 rfl; omega
          | false => simp only [Bool.false_eq_true, if_false]; omega
        have hks := kLen_snoc k ks
        split at h
        · rename_i hc
          have hlt := peek_lt (s := s) (i := skipB s i2) (by rw [hc]; decide)
          have := parts_len hv hf obj n (skipB s i2 + 1) m2 _ _ (by omega) hko.2.2.2.1 ho' hl' v j m' h
          omega
        · cases h3 : word s [if obj = true then 125 else 93] (skipB s i2) with
          | error e => rw [h3] at h; cases h
          | ok j' =>
            rw [h3] at h
            simp only at h
            have hw := word_ok (by cases obj <;> decide) hsl h3
            injection h with h; injection h with e1 h; injection h with e2 e3
            subst e1; subst e2
            simp only [List.length_singleton] at hw
            have hpk := prK_len (ks ++ [k]) obj true _ ho'
            have hpr : (pr (.mk (if obj = true then 6 else 5) false [] (if obj = true then ns ++ [t] else ns) (ks ++ [k]))).length = (prK obj true (if obj = true then ns ++ [t] else ns) (ks ++ [k])).length + 2 := by
              cases obj <;> (unfold pr; simp)
            rw [hpr]
            omega

theorem wordv_len {s w : Bytes} {i p m : Nat} {v v' : J} {j m' : Nat} (hi : i ≤ p) (hp : p ≤ s.length) (h0 : (0 : UInt8) ∉ w) (hv : (pr v).length ≤ w.length) (h : (match word s w p with | .error e => .error e | .ok k => .ok (v, k, m) : Res (J × Nat × Nat)) = .ok (v', j, m')) : (pr v').length + 6 * i ≤ 6 * j := by
  cases hw : word s w p with
  | error e => rw [hw] at h; cases h
  | ok k =>
    rw [hw] at h; injection h with h; injection h with e1 h; injection h with e2 e3
    subst e1; subst e2
    have := (word_ok h0 hp hw).1
    omega
theorem value_len (s : Bytes) : ∀ (n d : Nat), d ≤ 20 → Lens s (fun i m => value s n d i m)
  | 0, d, _ => fun _ _ _ _ _ _ _ h => by simp only [value] at h; cases h
  | n + 1, d, hd => by
    intro i m v j m' hi hm h
    have hle := skipB_le (s := s) (i := i)
    have hlen := skipB_len hi
    simp only [value] at h
    generalize skipB s i = p at *
    split at h
    · cases h
    · rename_i hst
      have hst : starts (peek s p) = true := by simpa using hst
      have hplt := peek_lt (starts_ne hst).2.2
      split at h
      · cases h
      · split at h
        · exact wordv_len hle hlen (by decide) (by unfold pr; simp) h
        · split at h
          · exact wordv_len hle hlen (by decide) (by unfold pr; simp) h
          · split at h
            · exact wordv_len hle hlen (by decide) (by unfold pr; simp) h
            · split at h
              · cases ht : text s p with
                | error e => rw [ht] at h; cases h
                | ok a =>
                  obtain ⟨t, k⟩ := a
                  rw [ht] at h
                  injection h with h; injection h with e1 h; injection h with e2 e3
                  subst e1; subst e2
                  have h3 := name_len.text_length1 ht
                  have h4 := jtext_length t
                  rw [show pr (.mk 4 false t [] []) = jtext t by unfold pr; simp]
                  omega
              · split at h
                · split at h
                  · cases h
                  · have hf := value_fine s n (d + 1) (by omega)
                    have hft := value_len s n (d + 1) (by omega)
                    have hsb := skipB_le (s := s) (i := p + 1)
                    have hsl := skipB_len (s := s) (i := p + 1) (by omega)
                    unfold group at h
                    by_cases hc : peek s (skipB s (p + 1)) = (if decide (peek s p = 123) = true then 125 else 93)
                    · rw [if_pos hc] at h
                      injection h with h; injection h with e1 h; injection h with e2 e3
                      subst e1; subst e2
                      have : (pr (.mk (if decide (peek s p = 123) = true then 6 else 5) false [] [] [])).length = 2 := by
                        cases decide (peek s p = 123) <;> (unfold pr; simp [prK])
                      rw [this]; omega
                    · rw [if_neg hc] at h
                      have := parts_len hf hft _ _ _ _ _ _ (by omega) (by omega) (by simp) (by simp) _ _ _ h
                      simp only [kLen, nLen] at this
                      omega
                · cases hn : number s p with
                  | error e => rw [hn] at h; cases h
                  | ok k =>
                    rw [hn] at h
                    injection h with h; injection h with e1 h; injection h with e2 e3
                    subst e1; subst e2
                    have := number_ok hn
                    have h3 : (pr (.mk 3 false ((s.drop p).take (k - p)) [] [])).length ≤ k - p := by unfold pr; simp; omega
                    omega
theorem parse_len {s : Bytes} {v : J} (h : parse s = .ok v) : (pr v).length ≤ 6 * s.length := by
  unfold parse at h
  split at h
  · cases h
  · split at h
    · cases h
    · rename_i v' i m' hv
      have := value_len s (s.length + 1) 0 (by omega) 0 0 _ _ _ (by omega) (by omega) hv
      have h2 := (value_fine s (s.length + 1) 0 (by omega)).ok 0 0 _ _ _ (by omega) (by omega) hv
      split at h
      · cases h
      · injection h with h; subst h; omega
end Cx
