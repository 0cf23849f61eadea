/- Plain law: of what is read as a text, a list or an object no beginning is read. -/
import Derived.Test.YtbdmepilmoomeaaGreatDoorCxLaws
namespace Cx

theorem kids_kind {v : J} {d : Nat} (hr : right d v = true) (hk : 3 < v.kind) : ∃ c r, pr v = c :: r ∧ (c = 34 ∨ c = 91 ∨ c = 123) := by
  obtain ⟨k, is, t, ns, ks⟩ := v
  have hk : 3 < k := hk
  unfold right at hr
  unfold pr
  rw [if_neg (by omega), if_neg (by omega), if_neg (by omega)] at hr ⊢
  by_cases k4 : k = 4
  · rw [if_pos k4]; exact ⟨_, _, rfl, .inl rfl⟩
  · rw [if_neg k4]
    by_cases k6 : k = 6
    · rw [if_pos k6]; exact ⟨_, _, rfl, .inr (.inr rfl)⟩
    · rw [if_neg k6]; exact ⟨_, _, rfl, .inr (.inl rfl)⟩

theorem parts_kind {val : Nat → Nat → Res (J × Nat × Nat)} {s : Bytes} {obj : Bool} : ∀ {n i m : Nat} {ns : List Bytes} {ks : List J} {v : J} {j m' : Nat}, parts val s obj n i m ns ks = .ok (v, j, m') → v.kind = (if obj then 6 else 5)
  | 0, _, _, _, _, _, _, _, h => by cases h
  | n + 1, i, m, ns, ks, v, j, m', h => by
    unfold parts at h
    split at h
    · cases h
    · split at h
      · cases h
      · split at h
        · exact parts_kind h
        · split at h
          · cases h
          · injection h with h; injection h with h _; subst h; rfl

theorem value_kind {s : Bytes} {n d i m : Nat} {v : J} {j m' : Nat} (h : value s n d i m = .ok (v, j, m')) (hc : peek s (skipB s i) = 34 ∨ peek s (skipB s i) = 91 ∨ peek s (skipB s i) = 123) : v.kind ≠ 3 := by
  cases n with
  | zero => cases h
  | succ n =>
    unfold value at h
    simp only at h
    generalize skipB s i = p at *
    split at h
    · cases h
    · split at h
      · cases h
      · rw [if_neg (by rcases hc with e | e | e <;> rw [e] <;> decide), if_neg (by rcases hc with e | e | e <;> rw [e] <;> decide), if_neg (by rcases hc with e | e | e <;> rw [e] <;> decide)] at h
        split at h
        · split at h
          · cases h
          · injection h with h; injection h with h _; subst h; show (4 : Int) ≠ 3; decide
        · rename_i h34
          have hc2 : peek s p = 91 ∨ peek s p = 123 := hc.resolve_left h34
          rw [if_pos hc2] at h
          split at h
          · cases h
          · unfold group at h
            by_cases hb : peek s (skipB s (p + 1)) = (if decide (peek s p = 123) = true then 125 else 93)
            · rw [if_pos hb] at h
              injection h with h; injection h with h _; subst h
              show (if _ then (6 : Int) else 5) ≠ 3
              split <;> decide
            · rw [if_neg hb] at h
              rw [parts_kind h]; split <;> decide

theorem parse_prefix {v : J} {k : Nat} (hr : Right v = true) (hk : 3 < v.kind) (hl : k < (pr v).length) : ∃ e p, parse ((pr v).take k) = .error (e, p) ∧ p ≤ k := by
  cases hp : parse ((pr v).take k) with
  | error e =>
    have := parse_err hp
    simp at this
    exact ⟨e.1, e.2, rfl, by omega⟩
  | ok w =>
    exfalso
    have hr' := hr
    simp only [Right, Bool.and_eq_true, decide_eq_true_eq] at hr'
    obtain ⟨c, r, hc, hcc⟩ := kids_kind hr'.2 hk
    unfold parse at hp
    split at hp
    · cases hp
    · split at hp
      · cases hp
      · rename_i w' j m' hv
        have hlen : ((pr v).take k).length = k := by simp; omega
        have hfine := (value_fine ((pr v).take k) (((pr v).take k).length + 1) 0 (by omega)).ok 0 0 _ _ _ (by omega) (by omega) hv
        have hk0 : 0 < k := by omega
        have hd : ((pr v).take k).drop 0 = c :: r.take (k - 1) := by
          rw [hc]; cases k with
          | zero => omega
          | succ q => simp
        have hb : isBlank c = false := by rcases hcc with e | e | e <;> subst e <;> rfl
        have hsk : skipB ((pr v).take k) 0 = 0 := skipB_stop (by rw [peek_drop hd]; exact hb)
        have hkind := value_kind hv (by rw [hsk, peek_drop hd]; exact hcc)
        have happ := value_app (t := (pr v).drop k) (show ((pr v).take k).length + 1 ≤ (pr v).length + 1 by omega) hv (.inr hkind)
        rw [List.take_append_drop] at happ
        have hback := value_back (pr v) v 0 (pr v) hr'.2 (shows_pr v 0 hr'.2) ((pr v).length + 1) 0 0 [] [] (by omega) Blanks.nil (by simp) ends_nil (by omega)
        rw [hback] at happ
        injection happ with happ; injection happ with _ happ; injection happ with e _
        simp at e
        omega
end Cx
