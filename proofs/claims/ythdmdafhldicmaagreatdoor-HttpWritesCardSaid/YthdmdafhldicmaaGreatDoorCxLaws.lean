/- Plain laws: a right value, as it is written, is read as it was. -/
import Derived.Test.YthdmdafhldicmaaGreatDoorCxRound
namespace Cx

mutual
theorem shows_pr : ∀ v : J, (∀ d, right d v = true → Shows v (pr v))
  | .mk k is t ns ks => fun d hr => by
    unfold Shows
    by_cases hk : k = 5 ∨ k = 6
    · rw [if_pos hk]
      have hrk : rightK (d + 1) ks = true := by
        rcases hk with rfl | rfl <;> simp [right] at hr <;> simp [hr]
      refine ⟨prK (decide (k = 6)) true ns ks, ?_, showsK_pr ks (decide (k = 6)) true ns (d + 1) hrk⟩
      rcases hk with rfl | rfl <;> simp [pr]
    · rw [if_neg hk]
theorem showsK_pr : ∀ (ks : List J) (obj first : Bool) (ns : List Bytes) (d : Nat), rightK d ks = true → ShowsK obj first ns ks (prK obj first ns ks)
  | [], obj, first, ns, d, _ => by unfold ShowsK prK; exact Blanks.nil
  | k :: ks, obj, first, ns, d, hr => by
    simp only [rightK, Bool.and_eq_true] at hr
    unfold ShowsK
    refine ⟨[], [], [], [], pr k, prK obj false ns.tail ks, Blanks.nil, Blanks.nil, Blanks.nil, Blanks.nil, ?_, shows_pr k d hr.1, showsK_pr ks obj false ns.tail d hr.2⟩
    conv => lhs; unfold prK
    simp
end

/-- What shows a right value, blanks at its ends, is read as that value. -/
theorem parse_shows {v : J} {x w w' : Bytes} (hr : Right v = true) (hs : Shows v x) (hw : Blanks w) (hw' : Blanks w') (hl : (w ++ (x ++ w')).length ≤ 100000) : parse (w ++ (x ++ w')) = .ok v := by
  simp only [Right, Bool.and_eq_true, decide_eq_true_eq] at hr
  have he : ends (w'.headD 0) := by
    have := ends_blanks (w := w') (r := []) hw' ends_nil
    simpa using this
  have hb := value_back (w ++ (x ++ w')) v 0 x hr.2 hs ((w ++ (x ++ w')).length + 1) 0 0 w w' (by omega) hw (by simp) he (by omega)
  unfold parse
  rw [if_neg (by omega), hb]
  simp only
  have hd : (w ++ (x ++ w')).drop (0 + w.length + x.length) = w' ++ [] := by
    rw [← List.append_assoc, List.drop_append_of_le_length (by simp), List.drop_of_length_le (by simp)]; simp
  have hsk : skipB (w ++ (x ++ w')) (0 + w.length + x.length) = 0 + w.length + x.length + w'.length := skipB_over hd hw' rfl
  rw [hsk, if_neg (by simp; omega)]
theorem parse_pr {v : J} (hr : Right v = true) (hl : (pr v).length ≤ 100000) : parse (pr v) = .ok v := by
  have hr' := hr
  simp only [Right, Bool.and_eq_true, decide_eq_true_eq] at hr'
  have := parse_shows (w := []) (w' := []) hr (shows_pr v 0 hr'.2) Blanks.nil Blanks.nil (by simpa using hl)
  simpa using this
/-- What a right value is written as is not the empty text. -/
theorem pr_ne {v : J} {d : Nat} (hr : right d v = true) : pr v ≠ [] := by
  obtain ⟨c, r, h, _⟩ := shows_starts hr (shows_pr v d hr)
  rw [h]; simp
theorem print_ne {v : J} : (print v ≠ []) ↔ Right v = true := by
  unfold print
  by_cases h : Right v = true
  · rw [if_pos h]
    have h' := h
    simp only [Right, Bool.and_eq_true, decide_eq_true_eq] at h'
    simp [h, pr_ne h'.2]
  · rw [if_neg h]; simp [h]

/-! ### A text that goes on is read as it was -/
theorem peek_app {s t : Bytes} {i : Nat} (h : i < s.length) : peek (s ++ t) i = peek s i := by
  simp [peek, List.getD, List.getElem?_append_left h]
theorem drop_app {s t : Bytes} {i : Nat} (h : i ≤ s.length) : (s ++ t).drop i = s.drop i ++ t := List.drop_append_of_le_length h
theorem skipB_app {s t : Bytes} {i : Nat} (h : skipB s i < s.length) : skipB (s ++ t) i = skipB s i := by
  have hle := skipB_le (s := s) (i := i)
  have e : s.drop i = (s.drop i).takeWhile isBlank ++ s.drop (skipB s i) := by
    have h2 : s.drop (skipB s i) = (s.drop i).drop ((s.drop i).takeWhile isBlank).length := by rw [List.drop_drop]; rfl
    rw [h2]
    generalize s.drop i = l
    induction l with
    | nil => rfl
    | cons a l ih =>
      rw [List.takeWhile_cons]
      split
      · simpa using ih
      · simp
  have hp := skipB_idem (s := s) (i := i)
  have hnb : isBlank (peek s (skipB s i)) = false := by
    cases hb : isBlank (peek s (skipB s i)) with
    | false => rfl
    | true =>
      have h1 := skipB_step h hb
      have h2 := skipB_le (s := s) (i := skipB s i + 1)
      omega
  have hd : (s ++ t).drop i = (s.drop i).takeWhile isBlank ++ (s.drop (skipB s i) ++ t) := by
    rw [drop_app (by omega)]; conv => lhs; rw [e]
    simp
  refine skipB_over hd (fun c hc => ?_) ?_
  · generalize s.drop i = l at hc
    induction l with
    | nil => cases hc
    | cons a l ih =>
      rw [List.takeWhile_cons] at hc
      split at hc
      · rcases List.mem_cons.1 hc with rfl | hc
        · assumption
        · exact ih hc
      · cases hc
  · rw [drop_peek h]; exact hnb
theorem word_lt {s : Bytes} {c : UInt8} {i j : Nat} (hc : c ≠ 0) (h : word s [c] i = .ok j) : i < s.length := by
  unfold word at h
  by_cases g : peek s i = c
  · exact peek_lt (by rw [g]; exact hc)
  · rw [if_neg g] at h; cases h
theorem word_app {s t : Bytes} : ∀ {w : Bytes} {i j : Nat}, (0 : UInt8) ∉ w → word s w i = .ok j → word (s ++ t) w i = .ok j
  | [], _, _, _, h => h
  | c :: w, i, j, h0, h => by
    unfold word at h ⊢
    split at h
    · rename_i g
      have hlt := peek_lt (s := s) (i := i) (by rw [g]; intro e; exact h0 (by simp [e]))
      rw [peek_app hlt, if_pos g]
      exact word_app (by intro e; exact h0 (by simp [e])) h
    · cases h
theorem unit_app {s t : Bytes} {i v : Nat} (h : unit s i = some v) : unit (s ++ t) i = some v := by
  have hk := unit_ok h
  unfold unit at h ⊢
  rw [drop_app (by omega)]
  split at h
  · rename_i a b c d l hd
    rw [hd]; exact h
  · cases h
theorem escape_app {s t b : Bytes} {i j : Nat} (h : escape s i = .ok (b, j)) : escape (s ++ t) i = .ok (b, j) := by
  have hk := escape_ok h
  unfold escape at h ⊢
  have he : (s ++ t)[i + 1]? = s[i + 1]? := by
    have : i + 1 < s.length := by
      split at h
      · rename_i x hx
        rcases Nat.lt_or_ge (i + 1) s.length with g | g
        · exact g
        · rw [List.getElem?_eq_none g] at hx; cases hx
      · split at h
        · cases h
        · rename_i v hv; have := unit_ok hv; omega
    rw [List.getElem?_append_left this]
  rw [he]
  split at h
  · exact h
  · split at h
    · cases h
    · rename_i v hv
      rw [unit_app hv]
      simp only
      split at h
      · rename_i hv2
        rw [if_pos hv2]
        split at h
        · cases h
        · rename_i low hlow
          rw [unit_app hlow]; exact h
      · rename_i hv2
        rw [if_neg hv2]; exact h
theorem textN_app {s t : Bytes} : ∀ {n n' i : Nat} {acc b : Bytes} {j : Nat}, n ≤ n' → textN s n i acc = .ok (b, j) → textN (s ++ t) n' i acc = .ok (b, j)
  | 0, _, _, _, _, _, _, h => by cases h
  | n + 1, 0, _, _, _, _, hn, _ => by omega
  | n + 1, n' + 1, i, acc, b, j, hn, h => by
    rw [textN_succ] at h ⊢
    split at h
    · cases h
    · rename_i h32
      have hlt : i < s.length := peek_lt (s := s) (i := i) (fun e => h32 (by rw [e]; decide))
      rw [peek_app hlt, if_neg h32]
      split at h
      · rename_i g; rw [if_pos g]; exact h
      · rename_i g
        rw [if_neg g]
        split at h
        · rename_i g2
          rw [if_pos g2]
          split at h
          · cases h
          · rename_i b' j' he
            rw [escape_app he]
            exact textN_app (by omega) h
        · rename_i g2
          rw [if_neg g2]
          split at h
          · cases h
          · rename_i hz
            have hle := runeLen_le (s.drop i)
            have hsp : s.drop i ++ t = (s.drop i).take (runeLen (s.drop i)) ++ ((s.drop i).drop (runeLen (s.drop i)) ++ t) := by
              rw [← List.append_assoc, List.take_append_drop]
            have e1 : runeLen (s.drop i ++ t) = runeLen (s.drop i) := by rw [hsp]; exact runeLen_take _ _ hz
            have e2 : (s.drop i ++ t).take (runeLen (s.drop i)) = (s.drop i).take (runeLen (s.drop i)) := List.take_append_of_le_length hle.1
            rw [drop_app (by omega), e1, if_neg hz, e2]
            exact textN_app (by omega) h
theorem text_app {s t b : Bytes} {i j : Nat} (h : text s i = .ok (b, j)) : text (s ++ t) i = .ok (b, j) := by
  unfold text at h ⊢
  split at h
  · rename_i g
    have hlt := peek_lt (s := s) (i := i) (by rw [g]; decide)
    rw [peek_app hlt, if_pos g]
    exact textN_app (by simp; omega) h
  · cases h
theorem name_app {s t b : Bytes} {l : List Bytes} {i j : Nat} (h : name s l i = .ok (b, j)) : name (s ++ t) l i = .ok (b, j) := by
  unfold name at h ⊢
  split at h
  · cases h
  · rename_i b' j' ht
    have hk := text_ok ht
    rw [skipB_app (by omega), text_app ht]
    simp only
    split at h
    · cases h
    · rename_i hm
      rw [if_neg hm]
      split at h
      · cases h
      · rename_i k hw
        have hlt : skipB s j' < s.length := by
          unfold word at hw
          split at hw
          · rename_i g; exact peek_lt (by rw [g]; decide)
          · cases hw
        rw [skipB_app hlt, word_app (by decide) hw]
        exact h
theorem number_app {s t : Bytes} {i j : Nat} (h : number s i = .ok j) (hj : j < s.length) : number (s ++ t) i = .ok j := by
  have hk := number_ok h
  rw [number_add] at h ⊢
  rw [drop_app (by omega)]
  cases h0 : number (s.drop i) 0 with
  | error e => rw [h0] at h; obtain ⟨a, b⟩ := e; cases h
  | ok n =>
    rw [h0] at h
    injection h with h
    have hl : n < (s.drop i).length := by simp; omega
    rw [number_same (l' := s.drop i ++ t) h0 ⟨fun k hk => peek_app (by omega), .inr (peek_app hl)⟩]
    show Except.ok (i + n) = _
    rw [h]

theorem parts_app {s t : Bytes} {val val' : Nat → Nat → Res (J × Nat × Nat)} (obj : Bool)
    (hv : ∀ i m v j m', val i m = .ok (v, j, m') → (j < s.length ∨ v.kind ≠ 3) → val' i m = .ok (v, j, m')) :
    ∀ {n n' i m : Nat} {ns : List Bytes} {ks : List J} {v : J} {j m' : Nat}, n ≤ n' → parts val s obj n i m ns ks = .ok (v, j, m') → parts val' (s ++ t) obj n' i m ns ks = .ok (v, j, m')
  | 0, _, _, _, _, _, _, _, _, _, h => by cases h
  | n + 1, 0, _, _, _, _, _, _, _, hn, _ => by omega
  | n + 1, n' + 1, i, m, ns, ks, v, j, m', hn, h => by
    unfold parts at h ⊢
    cases h1 : (if obj = true then name s ns i else Except.ok ([], i)) with
    | error e => rw [h1] at h; cases h
    | ok a =>
      obtain ⟨b, i1⟩ := a
      have e1 : (if obj = true then name (s ++ t) ns i else Except.ok ([], i)) = .ok (b, i1) := by
        cases obj with
        | true => exact name_app h1
        | false => exact h1
      rw [h1] at h
      rw [e1]
      simp only at h ⊢
      cases h2 : val i1 m with
      | error e => rw [h2] at h; cases h
      | ok c =>
        obtain ⟨k, i2, m2⟩ := c
        rw [h2] at h
        simp only at h
        have hle := skipB_le (s := s) (i := i2)
        have hlt : skipB s i2 < s.length := by
          split at h
          · rename_i g; exact peek_lt (by rw [g]; decide)
          · split at h
            · cases h
            · rename_i jj hw
              exact word_lt (by cases obj <;> decide) hw
        rw [hv _ _ _ _ _ h2 (.inl (by omega))]
        simp only
        rw [skipB_app hlt, peek_app hlt]
        split at h
        · rename_i g
          rw [if_pos g]
          exact parts_app obj hv (by omega) h
        · rename_i g
          rw [if_neg g]
          split at h
          · cases h
          · rename_i jj hw
            rw [word_app (by cases obj <;> decide) hw]
            exact h

theorem value_app {s t : Bytes} : ∀ {n n' d i m : Nat} {v : J} {j m' : Nat}, n ≤ n' → value s n d i m = .ok (v, j, m') → (j < s.length ∨ v.kind ≠ 3) → value (s ++ t) n' d i m = .ok (v, j, m')
  | 0, _, _, _, _, _, _, _, _, h, _ => by cases h
  | n + 1, 0, _, _, _, _, _, _, hn, _, _ => by omega
  | n + 1, n' + 1, d, i, m, v, j, m', hn, h, hj => by
    unfold value at h ⊢
    simp only at h ⊢
    have hlt : skipB s i < s.length := by
      split at h
      · cases h
      · rename_i hst
        exact peek_lt (starts_ne (by simpa using hst)).2.2
    rw [skipB_app hlt, peek_app hlt]
    generalize skipB s i = p at *
    split at h
    · cases h
    · rename_i hst
      rw [if_neg hst]
      split at h
      · cases h
      · rename_i hm
        rw [if_neg hm]
        have wd : ∀ (w : Bytes) (v0 : J), (0 : UInt8) ∉ w → (match word s w p with | .error e => .error e | .ok k => .ok (v0, k, m + 1) : Res (J × Nat × Nat)) = .ok (v, j, m') →
            (match word (s ++ t) w p with | .error e => .error e | .ok k => .ok (v0, k, m + 1) : Res (J × Nat × Nat)) = .ok (v, j, m') := by
          intro w v0 h0 h
          cases hw : word s w p with
          | error e => rw [hw] at h; cases h
          | ok k => rw [hw] at h; rw [word_app h0 hw]; exact h
        split at h
        · rename_i g; rw [if_pos g]; exact wd _ _ (by decide) h
        · rename_i g; rw [if_neg g]
          split at h
          · rename_i g; rw [if_pos g]; exact wd _ _ (by decide) h
          · rename_i g; rw [if_neg g]
            split at h
            · rename_i g; rw [if_pos g]; exact wd _ _ (by decide) h
            · rename_i g; rw [if_neg g]
              split at h
              · rename_i g; rw [if_pos g]
                split at h
                · cases h
                · rename_i b k ht
                  rw [text_app ht]; exact h
              · rename_i g; rw [if_neg g]
                split at h
                · rename_i g; rw [if_pos g]
                  split at h
                  · cases h
                  · rename_i hd
                    rw [if_neg hd]
                    unfold group at h ⊢
                    have hv := fun i m v j m' (h : value s n (d + 1) i m = .ok (v, j, m')) hj => value_app (t := t) (show n ≤ n' by omega) h hj
                    by_cases hc : peek s (skipB s (p + 1)) = (if decide (peek s p = 123) = true then 125 else 93)
                    · rw [if_pos hc] at h
                      have hlt2 := peek_lt (s := s) (i := skipB s (p + 1)) (by rw [hc]; split <;> decide)
                      rw [skipB_app hlt2, peek_app hlt2, if_pos hc]; exact h
                    · rw [if_neg hc] at h
                      have hlt2 : skipB s (p + 1) < s.length := by
                        rcases Nat.lt_or_ge (skipB s (p + 1)) s.length with g | g
                        · exact g
                        · exfalso
                          have hf := (value_fine s n (d + 1))
                          unfold parts at h
                          split at h
                          · cases h
                          · rename_i b i1 h1
                            have hi1 : s.length ≤ i1 := by
                              cases hO : decide (peek s p = 123) with
                              | true =>
                                rw [hO] at h1
                                simp only [if_true] at h1
                                unfold name at h1
                                split at h1
                                · cases h1
                                · rename_i b' j' ht
                                  unfold text at ht
                                  rw [peek_end (by have := skipB_le (s := s) (i := skipB s (p + 1)); omega)] at ht
                                  rw [if_neg (by decide)] at ht; cases ht
                              | false =>
                                rw [hO] at h1
                                injection h1 with h1; injection h1 with _ h1; omega
                            have hval : value s n (d + 1) i1 (m + 1) = .error (7, skipB s i1) ∨ ∃ e, value s n (d + 1) i1 (m + 1) = .error e := by
                              cases n with
                              | zero => exact .inr ⟨_, rfl⟩
                              | succ n =>
                                left
                                unfold value
                                simp only
                                rw [peek_end (by have := skipB_le (s := s) (i := i1); omega)]; rfl
                            rcases hval with e | ⟨e', e⟩ <;> rw [e] at h <;> cases h
                      rw [skipB_app hlt2, peek_app hlt2, if_neg hc]
                      exact parts_app _ hv (by simp) h
                · rename_i g; rw [if_neg g]
                  split at h
                  · cases h
                  · rename_i k hnum
                    have hkj : k = j ∧ v.kind = 3 := by
                      injection h with h; injection h with e1 h; injection h with e2 e3
                      subst e1; exact ⟨e2, rfl⟩
                    have hk := number_ok hnum
                    have hjlt : k < s.length := by
                      rcases hj with hj | hj
                      · omega
                      · exact absurd hkj.2 hj
                    rw [number_app hnum hjlt]
                    have : (List.drop p (s ++ t)).take (k - p) = (List.drop p s).take (k - p) := by
                      rw [drop_app (by omega), List.take_append_of_le_length (by simp; omega)]
                    simp only [this]
                    exact h
end Cx
