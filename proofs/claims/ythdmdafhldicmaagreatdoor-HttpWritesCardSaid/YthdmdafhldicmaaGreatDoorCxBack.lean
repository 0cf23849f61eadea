/- Plain laws: what is read is right; a right value that is written, with blanks anywhere between its parts, is read as it was; a text that goes on is read as it was. -/
import Derived.Test.YthdmdafhldicmaaGreatDoorCxText
namespace Cx

theorem starts_mem {c : UInt8} : starts c = true ↔ c ∈ ([110, 116, 102, 34, 91, 123, 45, 48, 49, 50, 51, 52, 53, 54, 55, 56, 57] : Bytes) := by simp [starts]
theorem starts_blank {c : UInt8} (h : starts c = true) : isBlank c = false := by
  rw [starts_mem] at h
  simp at h
  rcases h with h | h | h | h | h | h | h | h | h | h | h | h | h | h | h | h | h <;> subst h <;> rfl
theorem starts_ne {c : UInt8} (h : starts c = true) : c ≠ 93 ∧ c ≠ 125 ∧ c ≠ 0 := by
  rw [starts_mem] at h
  simp at h
  rcases h with h | h | h | h | h | h | h | h | h | h | h | h | h | h | h | h | h <;> subst h <;> decide
set_option maxRecDepth 100000 in
theorem starts_dig {c : UInt8} (h : isDig c = true) : starts c = true := by
  have key : ∀ k : Fin 256, isDig (UInt8.ofNat k.val) = true → starts (UInt8.ofNat k.val) = true := by decide
  have := key ⟨c.toNat, c.toNat_lt⟩
  simp only [UInt8.ofNat_toNat] at this
  exact this h
set_option maxRecDepth 100000 in
theorem dig_ne {c : UInt8} (h : c = 45 ∨ isDig c = true) : c ≠ 110 ∧ c ≠ 116 ∧ c ≠ 102 ∧ c ≠ 34 ∧ ¬ (c = 91 ∨ c = 123) := by
  rcases h with h | h
  · subst h; decide
  · have key : ∀ k : Fin 256, isDig (UInt8.ofNat k.val) = true → (UInt8.ofNat k.val) ≠ 110 ∧ (UInt8.ofNat k.val) ≠ 116 ∧ (UInt8.ofNat k.val) ≠ 102 ∧ (UInt8.ofNat k.val) ≠ 34 ∧ ¬ ((UInt8.ofNat k.val) = 91 ∨ (UInt8.ofNat k.val) = 123) := by decide
    have := key ⟨c.toNat, c.toNat_lt⟩
    simp only [UInt8.ofNat_toNat] at this
    exact this h

/-! ### Words -/
theorem word_ok {s : Bytes} : ∀ {w : Bytes} {i j : Nat}, (0 : UInt8) ∉ w → i ≤ s.length → word s w i = .ok j → j = i + w.length ∧ j ≤ s.length
  | [], i, j, _, hi, h => by injection h with h; subst h; exact ⟨rfl, hi⟩
  | c :: w, i, j, h0, hi, h => by
    unfold word at h
    split at h
    · rename_i g
      have := peek_lt (s := s) (i := i) (by rw [g]; intro e; exact h0 (by simp [e]))
      have := word_ok (s := s) (w := w) (by intro e; exact h0 (by simp [e])) (by omega) h
      simp; omega
    · cases h
theorem word_err {s : Bytes} : ∀ {w : Bytes} {i : Nat} {e : Nat × Nat}, (0 : UInt8) ∉ w → i ≤ s.length → word s w i = .error e → e.2 ≤ s.length
  | [], _, _, _, _, h => by cases h
  | c :: w, i, e, h0, hi, h => by
    unfold word at h
    split at h
    · rename_i g
      have := peek_lt (s := s) (i := i) (by rw [g]; intro e; exact h0 (by simp [e]))
      exact word_err (s := s) (w := w) (by intro e; exact h0 (by simp [e])) (by omega) h
    · injection h with h; subst h; exact hi
theorem word_back {s : Bytes} : ∀ {w r : Bytes} {i : Nat}, s.drop i = w ++ r → word s w i = .ok (i + w.length)
  | [], _, _, _ => rfl
  | c :: w, r, i, h => by
    have h1 : s.drop i = c :: (w ++ r) := h
    unfold word
    rw [peek_drop h1, if_pos rfl, word_back (drop_succ h1)]
    simp; omega

/-! ### What is read is right -/
theorem namesOk_snoc : ∀ (l old : List Bytes) (s : Bytes), namesOk old (l ++ [s]) = (namesOk old l && (valid s && !decide (s ∈ old ++ l)))
  | [], old, s => by simp [namesOk]
  | a :: l, old, s => by
    simp only [List.cons_append, namesOk, namesOk_snoc l (old ++ [a]) s, Bool.and_assoc]
    simp [List.append_assoc]
theorem rightK_snoc (d : Nat) : ∀ (l : List J) (k : J), rightK d (l ++ [k]) = (rightK d l && right d k)
  | [], k => by simp [rightK]
  | a :: l, k => by simp only [List.cons_append, rightK, rightK_snoc d l k, Bool.and_assoc]
theorem nodesK_snoc : ∀ (l : List J) (k : J), nodesK (l ++ [k]) = nodesK l + nodes k
  | [], k => by simp [nodesK]
  | a :: l, k => by simp only [List.cons_append, nodesK, nodesK_snoc l k]; omega

theorem name_ok {s t : Bytes} {l : List Bytes} {i j : Nat} (h : name s l i = .ok (t, j)) : i < j ∧ j ≤ s.length ∧ valid t = true ∧ t ∉ l := by
  unfold name at h
  split at h
  · cases h
  · rename_i t' j' ht
    have hk := text_ok ht
    have := skipB_le (s := s) (i := i)
    split at h
    · cases h
    · rename_i hm
      split at h
      · cases h
      · rename_i k hw
        injection h with h; injection h with h1 h2; subst h1; subst h2
        have := word_ok (by decide) (skipB_len hk.2.1) hw
        have := skipB_le (s := s) (i := j')
        exact ⟨by omega, by omega, hk.2.2, hm⟩
theorem name_err {s : Bytes} {l : List Bytes} {i : Nat} {e : Nat × Nat} (hi : i ≤ s.length) (h : name s l i = .error e) : e.2 ≤ s.length := by
  unfold name at h
  split at h
  · rename_i e' ht
    injection h with h; subst h; exact text_err (skipB_len hi) ht
  · rename_i t' j' ht
    have hk := text_ok ht
    split at h
    · injection h with h; subst h; exact skipB_len hi
    · split at h
      · rename_i e' hw
        injection h with h; subst h; exact word_err (by decide) (skipB_len hk.2.1) hw
      · cases h

/-- What a reader of values must give. -/
structure Fine (s : Bytes) (d : Nat) (val : Nat → Nat → Res (J × Nat × Nat)) : Prop where
  ok : ∀ i m v j m', i ≤ s.length → m ≤ 5000 → val i m = .ok (v, j, m') → i < j ∧ j ≤ s.length ∧ m' = m + nodes v ∧ m' ≤ 5000 ∧ right d v = true
  err : ∀ i m e, i ≤ s.length → m ≤ 5000 → val i m = .error e → e.2 ≤ s.length

theorem parts_fine {s : Bytes} {d : Nat} {val : Nat → Nat → Res (J × Nat × Nat)} (hv : Fine s (d + 1) val) (hd : d < 20) (obj : Bool) :
    ∀ (n i m : Nat) (ns : List Bytes) (ks : List J), i ≤ s.length → m ≤ 5000 → (obj = true → ns.length = ks.length ∧ namesOk [] ns = true) → (obj = false → ns = []) → rightK (d + 1) ks = true →
      (∀ v j m', parts val s obj n i m ns ks = .ok (v, j, m') → i < j ∧ j ≤ s.length ∧ m' + 1 + nodesK ks = m + nodes v ∧ m' ≤ 5000 ∧ right d v = true) ∧
      (∀ e, parts val s obj n i m ns ks = .error e → e.2 ≤ s.length)
  | 0, i, m, ns, ks, hi, _, _, _, _ => ⟨fun _ _ _ h => (by cases h), fun e h => by injection h with h; subst h; exact hi⟩
  | n + 1, i, m, ns, ks, hi, hm, ho, hl, hr => by
    unfold parts
    cases h1 : (if obj = true then name s ns i else Except.ok ([], i)) with
    | error e =>
      refine ⟨fun _ _ _ h => (by cases h), fun e' h => ?_⟩
      injection h with h; subst h
      cases obj with
      | true => exact name_err hi h1
      | false => cases h1
    | ok a =>
      obtain ⟨t, i1⟩ := a
      have hi1 : i ≤ i1 ∧ i1 ≤ s.length := by
        cases obj with
        | true => have := name_ok h1; omega
        | false => injection h1 with h1; injection h1 with _ h1; subst h1; omega
      simp only
      cases h2 : val i1 m with
      | error e =>
        refine ⟨fun _ _ _ h => (by cases h), fun e' h => ?_⟩
        injection h with h; subst h
        exact hv.err _ _ _ hi1.2 hm h2
      | ok b =>
        obtain ⟨k, i2, m2⟩ := b
        have hk := hv.ok _ _ _ _ _ hi1.2 hm h2
        have hsb := skipB_le (s := s) (i := i2)
        have hsl := skipB_len hk.2.1
        simp only
        have hr' : rightK (d + 1) (ks ++ [k]) = true := by rw [rightK_snoc, hr, hk.2.2.2.2]; rfl
        have ho' : obj = true → (if obj = true then ns ++ [t] else ns).length = (ks ++ [k]).length ∧ namesOk [] (if obj = true then ns ++ [t] else ns) = true := by
          intro he; subst he
          have hn := name_ok h1
          have := ho rfl
          simp only [if_true, List.length_append, List.length_singleton]
          refine ⟨by omega, ?_⟩
          rw [namesOk_snoc, this.2, hn.2.2.1]; simp [hn.2.2.2]
        have hl' : obj = false → (if obj = true then ns ++ [t] else ns) = [] := by
          intro he; subst he; simp; exact hl rfl
        split
        · rename_i hc
          have hlt := peek_lt (s := s) (i := skipB s i2) (by rw [hc]; decide)
          have ih := parts_fine hv hd obj n (skipB s i2 + 1) m2 _ _ (by omega) hk.2.2.2.1 ho' hl' hr'
          refine ⟨fun v j m' h => ?_, fun e h => ih.2 e h⟩
          have := ih.1 v j m' h
          rw [nodesK_snoc] at this
          refine ⟨by omega, this.2.1, by omega, this.2.2.2⟩
        · cases h3 : word s [if obj = true then 125 else 93] (skipB s i2) with
          | error e =>
            refine ⟨fun _ _ _ h => (by cases h), fun e' h => ?_⟩
            injection h with h; subst h
            exact word_err (by cases obj <;> decide) hsl h3
          | ok j' =>
            have hw := word_ok (by cases obj <;> decide) hsl h3
            refine ⟨fun v j m' h => ?_, fun e' h => by cases h⟩
            simp only at h
            injection h with h; injection h with e1 h; injection h with e2 e3
            subst e1; subst e2; subst e3
            simp only [List.length_singleton] at hw
            refine ⟨by omega, hw.2, ?_, hk.2.2.2.1, ?_⟩
            · simp only [nodes, nodesK_snoc]; omega
            · cases obj with
              | true =>
                have := ho' rfl
                simp only [if_true] at this ⊢
                simp [right, this.1, this.2, hd, hr']
              | false =>
                have := hl rfl
                subst this
                simp [right, hd, hr']

theorem value_fine (s : Bytes) : ∀ (n d : Nat), d ≤ 20 → Fine s d (fun i m => value s n d i m)
  | 0, d, _ => ⟨fun _ _ _ _ _ _ _ h => (by cases h), fun i m e hi _ h => by injection h with h; subst h; exact hi⟩
  | n + 1, d, hd => by
    have key : ∀ i m, i ≤ s.length → m ≤ 5000 →
        (∀ v j m', value s (n + 1) d i m = .ok (v, j, m') → i < j ∧ j ≤ s.length ∧ m' = m + nodes v ∧ m' ≤ 5000 ∧ right d v = true) ∧ (∀ e, value s (n + 1) d i m = .error e → e.2 ≤ s.length) := by
      intro i m hi hm
      have hle := skipB_le (s := s) (i := i)
      have hlen := skipB_len hi
      unfold value
      simp only
      generalize skipB s i = p at *
      split
      · exact ⟨fun _ _ _ h => (by cases h), fun e h => (by injection h with h; subst h; exact hlen)⟩
      · rename_i hst
        have hst : starts (peek s p) = true := by simpa using hst
        have hplt := peek_lt (starts_ne hst).2.2
        split
        · exact ⟨fun _ _ _ h => (by cases h), fun e h => (by injection h with h; subst h; exact hlen)⟩
        · have wd : ∀ (w : Bytes) (v : J), (0 : UInt8) ∉ w → 0 < w.length → nodes v = 1 → right d v = true →
              (∀ v' j m', (match word s w p with | .error e => .error e | .ok k => .ok (v, k, m + 1) : Res (J × Nat × Nat)) = .ok (v', j, m') → i < j ∧ j ≤ s.length ∧ m' = m + nodes v' ∧ m' ≤ 5000 ∧ right d v' = true) ∧
              (∀ e, (match word s w p with | .error e => .error e | .ok k => .ok (v, k, m + 1) : Res (J × Nat × Nat)) = .error e → e.2 ≤ s.length) := by
            intro w v h0 hw hnv hrv
            cases hwd : word s w p with
            | error e => exact ⟨fun _ _ _ h => (by cases h), fun e' h => (by injection h with h; subst h; exact word_err h0 hlen hwd)⟩
            | ok k =>
              have := word_ok h0 hlen hwd
              refine ⟨fun v' j m' h => ?_, fun e' h => by cases h⟩
              simp only at h
              injection h with h; injection h with e1 h; injection h with e2 e3
              subst e1; subst e2; subst e3
              exact ⟨by omega, this.2, by omega, by omega, hrv⟩
          split
          · exact wd _ _ (by decide) (by decide) rfl (by simp [right])
          · split
            · exact wd _ _ (by decide) (by decide) rfl (by simp [right])
            · split
              · exact wd _ _ (by decide) (by decide) rfl (by simp [right])
              · split
                · cases ht : text s p with
                  | error e => exact ⟨fun _ _ _ h => (by cases h), fun e' h => (by injection h with h; subst h; exact text_err hlen ht)⟩
                  | ok a =>
                    obtain ⟨t, k⟩ := a
                    have hk := text_ok ht
                    refine ⟨fun v' j m' h => ?_, fun e' h => by cases h⟩
                    simp only at h
                    injection h with h; injection h with e1 h; injection h with e2 e3
                    subst e1; subst e2; subst e3
                    exact ⟨by omega, hk.2.1, rfl, by omega, by simp [right, hk.2.2]⟩
                · split
                  · split
                    · exact ⟨fun _ _ _ h => (by cases h), fun e h => (by injection h with h; subst h; exact hlen)⟩
                    · have hf := value_fine s n (d + 1) (by omega)
                      have hsb := skipB_le (s := s) (i := p + 1)
                      have hsl := skipB_len (s := s) (i := p + 1) (by omega)
                      unfold group
                      by_cases hc : peek s (skipB s (p + 1)) = (if decide (peek s p = 123) = true then 125 else 93)
                      · rw [if_pos hc]
                        have hplt2 := peek_lt (s := s) (i := skipB s (p + 1)) (by rw [hc]; split <;> decide)
                        refine ⟨fun v' j m' h => ?_, fun e' h => by cases h⟩
                        injection h with h; injection h with e1 h; injection h with e2 e3
                        subst e1; subst e2; subst e3
                        refine ⟨by omega, by omega, by simp [nodes, nodesK], by omega, ?_⟩
                        split <;> simp [right, rightK, namesOk] <;> omega
                      · rw [if_neg hc]
                        have hp := parts_fine hf (by omega) (decide (peek s p = 123)) (s.length + 1) (skipB s (p + 1)) (m + 1) [] [] (by omega) (by omega) (by simp [namesOk]) (by simp) rfl
                        refine ⟨fun v' j m' h => ?_, fun e' h => hp.2 e' h⟩
                        have := hp.1 v' j m' h
                        simp only [nodesK] at this
                        exact ⟨by omega, this.2.1, by omega, this.2.2.2.1, this.2.2.2.2⟩
                  · cases hn : number s p with
                    | error e => exact ⟨fun _ _ _ h => (by cases h), fun e' h => (by injection h with h; subst h; exact number_err hlen hn)⟩
                    | ok k =>
                      have hk := number_ok hn
                      refine ⟨fun v' j m' h => ?_, fun e' h => by cases h⟩
                      simp only at h
                      injection h with h; injection h with e1 h; injection h with e2 e3
                      subst e1; subst e2; subst e3
                      exact ⟨by omega, hk.2.1, rfl, by omega, by simp [right, isNum_of_number hn]⟩
    exact ⟨fun i m v j m' hi hm h => (key i m hi hm).1 v j m' h, fun i m e hi hm h => (key i m hi hm).2 e h⟩

theorem parse_right {s : Bytes} {v : J} (h : parse s = .ok v) : Right v = true := by
  unfold parse at h
  split at h
  · cases h
  · split at h
    · cases h
    · rename_i v' i m' hv
      have := (value_fine s (s.length + 1) 0 (by omega)).ok 0 0 _ _ _ (by omega) (by omega) hv
      split at h
      · cases h
      · injection h with h; subst h
        simp [Right, this.2.2.2.2]; omega
theorem parse_err {s : Bytes} {e : Nat × Nat} (h : parse s = .error e) : e.2 ≤ s.length := by
  unfold parse at h
  split at h
  · injection h with h; subst h; simp
  · split at h
    · rename_i e' hv
      injection h with h; subst h
      exact (value_fine s (s.length + 1) 0 (by omega)).err 0 0 _ (by omega) (by omega) hv
    · rename_i v' i m' hv
      have := (value_fine s (s.length + 1) 0 (by omega)).ok 0 0 _ _ _ (by omega) (by omega) hv
      split at h
      · injection h with h; subst h; exact skipB_len this.2.1
      · cases h
end Cx
