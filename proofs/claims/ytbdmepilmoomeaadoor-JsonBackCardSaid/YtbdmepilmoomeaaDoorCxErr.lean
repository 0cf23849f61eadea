/- No fault of a parse is the number that says that there is none. -/
import Derived.Test.YtbdmepilmoomeaaDoorCxBack
namespace Cx

theorem word_errne {s : Bytes} : ∀ {w : Bytes} {i : Nat} {e : Nat × Nat}, word s w i = .error e → e.1 ≠ 0
  | [], _, _, h => by unfold word at h; cases h
  | c :: w, i, e, h => by
    unfold word at h
    split at h
    · exact word_errne h
    · injection h with h; subst h; simp
theorem digits_errne {s : Bytes} {i : Nat} {e : Nat × Nat} (h : digits s i = .error e) : e.1 ≠ 0 := by
  rw [digits_err h]; simp
theorem number_errne {s : Bytes} {i : Nat} {e : Nat × Nat} (h : number s i = .error e) : e.1 ≠ 0 := by
  unfold number at h
  split at h
  · rename_i e' h1
    injection h with h; subst h
    unfold numInt at h1
    split at h1
    · exact digits_errne h1
    · cases h1
  · split at h
    · rename_i e' h1
      injection h with h; subst h
      unfold numFrac at h1
      split at h1
      · cases h1
      · exact digits_errne h1
    · split at h
      · rename_i e' h1
        injection h with h; subst h
        unfold numExp at h1
        split at h1
        · cases h1
        · exact digits_errne h1
      · split at h
        · injection h with h; subst h; simp
        · cases h
theorem textN_errne {s : Bytes} : ∀ {n i : Nat} {acc : Bytes} {e : Nat × Nat}, textN s n i acc = .error e → e.1 ≠ 0
  | 0, i, acc, e, h => by unfold textN at h; injection h with h; subst h; simp
  | n + 1, i, acc, e, h => by
    rw [textN_succ] at h
    split at h
    · injection h with h; subst h; simp
    · split at h
      · cases h
      · split at h
        · split at h
          · rename_i e' he
            injection h with h; subst h
            rw [escape_err he]; simp
          · exact textN_errne h
        · split at h
          · injection h with h; subst h; simp
          · exact textN_errne h
theorem text_errne {s : Bytes} {i : Nat} {e : Nat × Nat} (h : text s i = .error e) : e.1 ≠ 0 := by
  unfold text at h
  split at h
  · exact textN_errne h
  · injection h with h; subst h; simp
theorem name_errne {s : Bytes} {l : List Bytes} {i : Nat} {e : Nat × Nat} (h : name s l i = .error e) : e.1 ≠ 0 := by
  unfold name at h
  split at h
  · rename_i e' he
    injection h with h; subst h
    exact text_errne he
  · split at h
    · injection h with h; subst h; simp
    · split at h
      · rename_i e' he
        injection h with h; subst h
        exact word_errne he
      · cases h
theorem parts_errne {s : Bytes} {val : Nat → Nat → Res (J × Nat × Nat)} (hv : ∀ i m e, val i m = .error e → e.1 ≠ 0) (obj : Bool) :
    ∀ {n i m : Nat} {ns : List Bytes} {ks : List J} {e : Nat × Nat}, parts val s obj n i m ns ks = .error e → e.1 ≠ 0
  | 0, i, m, ns, ks, e, h => by unfold parts at h; injection h with h; subst h; simp
  | n + 1, i, m, ns, ks, e, h => by
    unfold parts at h
    cases h1 : (if obj = true then name s ns i else Except.ok ([], i)) with
    | error e' =>
      rw [h1] at h
      injection h with h; subst h
      cases obj with
      | true => exact name_errne h1
      | false => cases h1
    | ok a =>
      obtain ⟨t, i1⟩ := a
      rw [h1] at h
      simp only at h
      cases h2 : val i1 m with
      | error e' =>
        rw [h2] at h
        injection h with h; subst h
        exact hv _ _ _ h2
      | ok b =>
        obtain ⟨k, i2, m2⟩ := b
        rw [h2] at h
        simp only at h
        split at h
        · exact parts_errne hv obj h
        · cases h3 : word s [if obj = true then 125 else 93] (skipB s i2) with
          | error e' =>
            rw [h3] at h
            injection h with h; subst h
            exact word_errne h3
          | ok j => rw [h3] at h; cases h
theorem wordv_errne {s w : Bytes} {i m : Nat} {v : J} {e : Nat × Nat} (h : (match word s w i with | .error e => .error e | .ok k => .ok (v, k, m) : Res (J × Nat × Nat)) = .error e) : e.1 ≠ 0 := by
  cases hw : word s w i with
  | error e' => rw [hw] at h; injection h with h; subst h; exact word_errne hw
  | ok k => rw [hw] at h; cases h
theorem value_errne (s : Bytes) : ∀ (n d i m : Nat) (e : Nat × Nat), value s n d i m = .error e → e.1 ≠ 0
  | 0, d, i, m, e, h => by simp only [value] at h; injection h with h; subst h; simp
  | n + 1, d, i, m, e, h => by
    simp only [value] at h
    generalize skipB s i = p at *
    split at h
    · injection h with h; subst h; simp
    · split at h
      · injection h with h; subst h; simp
      · split at h
        · exact wordv_errne h
        · split at h
          · exact wordv_errne h
          · split at h
            · exact wordv_errne h
            · split at h
              · cases ht : text s p with
                | error e' => rw [ht] at h; injection h with h; subst h; exact text_errne ht
                | ok a => rw [ht] at h; cases h
              · split at h
                · split at h
                  · injection h with h; subst h; simp
                  · unfold group at h
                    by_cases hc : peek s (skipB s (p + 1)) = (if decide (peek s p = 123) = true then 125 else 93)
                    · rw [if_pos hc] at h; cases h
                    · rw [if_neg hc] at h
                      exact parts_errne (fun i m e h => value_errne s n (d + 1) i m e h) _ h
                · cases hn : number s p with
                  | error e' => rw [hn] at h; injection h with h; subst h; exact number_errne hn
                  | ok k => rw [hn] at h; cases h
theorem parse_errne {s : Bytes} {e : Nat × Nat} (h : parse s = .error e) : e.1 ≠ 0 := by
  unfold parse at h
  split at h
  · injection h with h; subst h; simp
  · split at h
    · rename_i e' hv
      injection h with h; subst h
      exact value_errne _ _ _ _ _ _ hv
    · split at h
      · injection h with h; subst h; simp
      · cases h
end Cx
