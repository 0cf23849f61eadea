/- Plain laws: a right value that is written, with blanks anywhere between its parts, is read as it was. -/
import Derived.Test.YthdmdafhldicmaaGreatDoorCxBack
namespace Cx

def Blanks (w : Bytes) : Prop := ∀ c ∈ w, isBlank c = true
theorem Blanks.nil : Blanks [] := fun _ h => by cases h
theorem Blanks.append {a b : Bytes} (ha : Blanks a) (hb : Blanks b) : Blanks (a ++ b) := fun c hc => (List.mem_append.1 hc).elim (ha c) (hb c)

mutual
/-- A text shows a value: it is as it is written, but for blanks between the parts. -/
def Shows : J → Bytes → Prop
  | .mk k is t ns ks, x =>
    if k = 5 ∨ k = 6 then ∃ y, x = (if k = 6 then 123 else 91) :: (y ++ [if k = 6 then 125 else 93]) ∧ ShowsK (decide (k = 6)) true ns ks y
    else x = pr (.mk k is t ns ks)
def ShowsK (obj : Bool) : Bool → List Bytes → List J → Bytes → Prop
  | _, _, [], y => Blanks y
  | first, ns, k :: ks, y => ∃ w0 w1 w2 w3 x z : Bytes, Blanks w0 ∧ Blanks w1 ∧ Blanks w2 ∧ Blanks w3 ∧
      y = w0 ++ ((if first then [] else 44 :: w1) ++ ((if obj then jtext (ns.headD []) ++ (w2 ++ [58]) else []) ++ (w3 ++ (x ++ z)))) ∧ Shows k x ∧ ShowsK obj false ns.tail ks z
end

theorem isNum_starts {t : Bytes} (h : isNum t) : ∃ c r, t = c :: r ∧ starts c = true ∧ (c = 45 ∨ isDig c = true) := by
  cases t with
  | nil => exact absurd rfl (isNum_ne h)
  | cons c r =>
    have := isNum_head h
    have e : peek (c :: r) 0 = c := rfl
    rw [e] at this
    refine ⟨c, r, rfl, ?_, this⟩
    rcases this with g | g
    · subst g; rfl
    · exact starts_dig g

/-- What shows a right value begins with one of the bytes with which a value begins. -/
theorem shows_starts {v : J} {d : Nat} {x : Bytes} (hr : right d v = true) (hs : Shows v x) : ∃ c r, x = c :: r ∧ starts c = true := by
  obtain ⟨k, is, t, ns, ks⟩ := v
  unfold Shows at hs
  split at hs
  · obtain ⟨y, rfl, _⟩ := hs
    split
    · exact ⟨_, _, rfl, rfl⟩
    · exact ⟨_, _, rfl, rfl⟩
  · subst hs
    unfold right at hr
    unfold pr
    split
    · exact ⟨_, _, rfl, rfl⟩
    · split
      · split <;> exact ⟨_, _, rfl, rfl⟩
      · split
        · rename_i h1 h2 h3
          rw [if_neg h1, if_neg h2, if_pos h3] at hr
          simp only [Bool.and_eq_true, decide_eq_true_eq] at hr
          obtain ⟨c, r, e, h, _⟩ := isNum_starts hr.2
          exact ⟨c, r, e, h⟩
        · split
          · exact ⟨_, _, rfl, rfl⟩
          · split <;> exact ⟨_, _, rfl, rfl⟩

/-- May what stands behind a value stand behind a number? -/
theorem ends_comma : ends 44 := by simp [ends, isDig]
theorem ends_square : ends 93 := by simp [ends, isDig]
theorem ends_curly : ends 125 := by simp [ends, isDig]
theorem ends_nil : ends 0 := by simp [ends, isDig]
theorem ends_blank {c : UInt8} (h : isBlank c = true) : ends c := by
  rcases isBlank_ne h with rfl | rfl | rfl | rfl <;> simp [ends, isDig]
theorem ends_blanks {w r : Bytes} (hw : Blanks w) (hr : ends (r.headD 0)) : ends ((w ++ r).headD 0) := by
  cases w with
  | nil => simpa using hr
  | cons c w => exact ends_blank (hw c (by simp))

theorem headD_append (w r : Bytes) : (w ++ r).headD 0 = if w = [] then r.headD 0 else w.headD 0 := by cases w <;> simp

/-- What stands behind a part ends a number. -/
theorem showsK_ends {obj : Bool} {ns : List Bytes} {ks : List J} {z r : Bytes} (h : ShowsK obj false ns ks z) (hr : ends (r.headD 0)) : ends ((z ++ r).headD 0) := by
  cases ks with
  | nil => exact ends_blanks h hr
  | cons k ks =>
    obtain ⟨w0, w1, w2, w3, x, z', h0, _, _, _, rfl, _, _⟩ := h
    rw [List.append_assoc]
    refine ends_blanks h0 ?_
    exact ends_comma

theorem drop_lt {s : Bytes} {i : Nat} {c : UInt8} {r : Bytes} (h : s.drop i = c :: r) : i < s.length := by
  rcases Nat.lt_or_ge i s.length with g | g
  · exact g
  · rw [List.drop_of_length_le g] at h; cases h
theorem skipB_over' {s : Bytes} {i : Nat} {w r : Bytes} {c : UInt8} (h : s.drop i = w ++ c :: r) (hw : Blanks w) (hc : isBlank c = false) : skipB s i = i + w.length :=
  skipB_over h hw hc

set_option maxHeartbeats 2000000 in
mutual
theorem value_back (s : Bytes) : ∀ (v : J) (d : Nat) (x : Bytes), right d v = true → Shows v x → ∀ (n i m : Nat) (w r : Bytes), s.length < i + n → Blanks w → s.drop i = w ++ (x ++ r) →
    ends (r.headD 0) → m + nodes v ≤ 5000 → value s n d i m = .ok (v, i + w.length + x.length, m + nodes v)
  | .mk k is t ns ks, d, x, hr, hs, n, i, m, w, r, hn, hw, hd, he, hm => by
    obtain ⟨c, x', hx, hc⟩ := shows_starts hr hs
    have hi : i < s.length := by
      rcases Nat.lt_or_ge i s.length with g | g
      · exact g
      · rw [List.drop_of_length_le g, hx] at hd
        have := congrArg List.length hd
        simp at this
    cases n with
    | zero => omega
    | succ n =>
      have hsk : skipB s i = i + w.length := by
        rw [hx] at hd
        exact skipB_over' hd hw (starts_blank hc)
      have hd2 := drop_add hd
      have hpk : peek s (i + w.length) = c := by rw [hx] at hd2; exact peek_drop hd2
      have hplt := peek_lt (s := s) (i := i + w.length) (by rw [hpk]; exact (starts_ne hc).2.2)
      have hnm : ¬ 5000 ≤ m := by simp only [nodes] at hm; omega
      unfold value
      simp only
      rw [hsk, hpk, if_neg (by simp [hc]), if_neg hnm]
      have hip : i ≤ i + w.length := Nat.le_add_right _ _
      generalize i + w.length = p at *
      unfold right at hr
      unfold Shows at hs
      by_cases k1 : k = 1
      · subst k1
        simp only [if_true, Bool.and_eq_true, Bool.not_eq_true', decide_eq_true_eq, List.isEmpty_iff] at hr
        obtain ⟨⟨⟨rfl, rfl⟩, rfl⟩, rfl⟩ := hr
        rw [if_neg (by decide)] at hs
        subst hs
        obtain ⟨rfl, rfl⟩ : c = 110 ∧ x' = [117, 108, 108] := by simpa [pr] using hx.symm
        rw [if_pos rfl, word_back (by rw [hd2]; rfl)]
        simp [pr, nodes, nodesK]
      · rw [if_neg k1] at hr
        by_cases k2 : k = 2
        · subst k2
          simp only [if_true, Bool.and_eq_true, decide_eq_true_eq, List.isEmpty_iff] at hr
          obtain ⟨⟨rfl, rfl⟩, rfl⟩ := hr
          rw [if_neg (by decide)] at hs
          subst hs
          cases is with
          | true =>
            obtain ⟨rfl, rfl⟩ : c = 116 ∧ x' = [114, 117, 101] := by simpa [pr] using hx.symm
            rw [if_neg (by decide), if_pos rfl, word_back (by rw [hd2]; rfl)]
            simp [pr, nodes, nodesK]
          | false =>
            obtain ⟨rfl, rfl⟩ : c = 102 ∧ x' = [97, 108, 115, 101] := by simpa [pr] using hx.symm
            rw [if_neg (by decide), if_neg (by decide), if_pos rfl, word_back (by rw [hd2]; rfl)]
            simp [pr, nodes, nodesK]
        · rw [if_neg k2] at hr
          by_cases k3 : k = 3
          · subst k3
            simp only [if_true, Bool.and_eq_true, Bool.not_eq_true', decide_eq_true_eq, List.isEmpty_iff] at hr
            obtain ⟨⟨⟨rfl, rfl⟩, rfl⟩, hnum⟩ := hr
            rw [if_neg (by decide)] at hs
            have hp : pr (.mk 3 false t [] []) = t := by simp [pr]
            rw [hp] at hs
            subst hs
            obtain ⟨c', r', e1, _, e2⟩ := isNum_starts hnum
            rw [hx] at e1
            obtain ⟨rfl, rfl⟩ : c = c' ∧ x' = r' := by simpa using e1
            have hne := dig_ne e2
            rw [if_neg hne.1, if_neg hne.2.1, if_neg hne.2.2.1, if_neg hne.2.2.2.1, if_neg hne.2.2.2.2, number_of_isNum hnum hd2 he]
            have : p + x.length - p = x.length := by omega
            simp [this, hd2, nodes, nodesK]
          · rw [if_neg k3] at hr
            by_cases k4 : k = 4
            · subst k4
              simp only [if_true, Bool.and_eq_true, Bool.not_eq_true', decide_eq_true_eq, List.isEmpty_iff] at hr
              obtain ⟨⟨⟨rfl, rfl⟩, rfl⟩, hv⟩ := hr
              rw [if_neg (by decide)] at hs
              have hp : pr (.mk 4 false t [] []) = jtext t := by simp [pr]
              rw [hp] at hs
              subst hs
              obtain ⟨rfl, _⟩ : c = 34 ∧ x' = esc t ++ [34] := by simpa [jtext] using hx.symm
              rw [if_neg (by decide), if_neg (by decide), if_neg (by decide), if_pos rfl, text_back hv hd2]
              simp [nodes, nodesK]
            · rw [if_neg k4] at hr
              have hk : k = 5 ∨ k = 6 := by
                by_cases k5 : k = 5
                · exact .inl k5
                · rw [if_neg k5] at hr
                  by_cases k6 : k = 6
                  · exact .inr k6
                  · rw [if_neg k6] at hr; cases hr
              rw [if_pos hk] at hs
              obtain ⟨y, hy, hsk2⟩ := hs
              have hr2 : (decide (k = 6) = true → ns.length = ks.length ∧ namesOk [] ns = true) ∧ (decide (k = 6) = false → ns = []) ∧ t = [] ∧ is = false ∧ d < 20 ∧ rightK (d + 1) ks = true := by
                rcases hk with rfl | rfl
                · simp at hr; simp [hr]
                · simp at hr; simp [hr]
              clear hr
              obtain ⟨hn6, hn5, rfl, rfl, hdl, hrk⟩ := hr2
              have hc2 : c = 91 ∨ c = 123 := by
                rw [hx] at hy; injection hy with h1 _
                rw [h1]; rcases hk with rfl | rfl <;> simp
              have hkc : decide (c = 123) = decide (k = 6) := by
                rw [hx] at hy; injection hy with h1 _
                rw [h1]; rcases hk with rfl | rfl <;> simp
              have hcn : c ≠ 110 ∧ c ≠ 116 ∧ c ≠ 102 ∧ c ≠ 34 := by rcases hc2 with rfl | rfl <;> decide
              rw [if_neg hcn.1, if_neg hcn.2.1, if_neg hcn.2.2.1, if_neg hcn.2.2.2, if_pos hc2, if_neg (by omega), hkc]
              have hkk : k = if decide (k = 6) = true then 6 else 5 := by rcases hk with rfl | rfl <;> simp
              have hdy : s.drop (p + 1) = y ++ ((if decide (k = 6) = true then 125 else 93) :: r) := by
                rw [hy] at hd2
                have := drop_succ (c := if k = 6 then 123 else 91) (r := y ++ [if k = 6 then 125 else 93] ++ r) (by rw [hd2]; simp)
                rw [this]; simp
              have hyl : x.length = y.length + 2 := by rw [hy]; simp
              have hob : (if decide (k = 6) = true then (125 : UInt8) else 93) = 125 ∨ (if decide (k = 6) = true then (125 : UInt8) else 93) = 93 := by split <;> simp
              have hclb : isBlank (if decide (k = 6) = true then (125 : UInt8) else 93) = false := by rcases hob with e | e <;> rw [e] <;> rfl
              have hcle : ends (if decide (k = 6) = true then (125 : UInt8) else 93) := by rcases hob with e | e <;> rw [e] <;> first | exact ends_curly | exact ends_square
              unfold group
              generalize hO : decide (k = 6) = obj at *
              cases ks with
              | nil =>
                have hyb : Blanks y := hsk2
                have hsk3 : skipB s (p + 1) = p + 1 + y.length := skipB_over' hdy hyb hclb
                have hd3 := drop_add hdy
                rw [hsk3, peek_drop hd3, if_pos rfl]
                have : ns = [] := by
                  cases obj with
                  | true => have := (hn6 rfl).1; simpa using this
                  | false => exact hn5 rfl
                subst this
                rw [← hkk]
                simp [nodes, nodesK]; omega
              | cons k0 ks =>
                obtain ⟨w0, w1, w2, w3, x0, z, h0, h1, h2, h3, hyy, hx0, hz⟩ := hsk2
                simp only [rightK, Bool.and_eq_true] at hrk
                obtain ⟨c0, r0, hx0c, hc0⟩ := shows_starts hrk.1 hx0
                have hfirst : ((if obj then jtext (ns.headD []) ++ (w2 ++ [58]) else []) ++ (w3 ++ (x0 ++ z))) = (if obj then [] else w3) ++ ((if obj then jtext (ns.headD []) ++ (w2 ++ [58]) ++ w3 else []) ++ (x0 ++ z)) := by
                  cases obj <;> simp
                rw [if_pos rfl, List.nil_append, hfirst] at hyy
                -- past the blanks behind the bracket
                have hb0 : Blanks (w0 ++ (if obj then [] else w3)) := h0.append (by cases obj; exact h3; exact Blanks.nil)
                have hdy2 : s.drop (p + 1) = (w0 ++ (if obj then [] else w3)) ++ (((if obj then jtext (ns.headD []) ++ (w2 ++ [58]) ++ w3 else []) ++ (x0 ++ z)) ++ ((if obj = true then 125 else 93) :: r)) := by
                  rw [hdy, hyy]; simp
                have hnb : ∃ c1 r1, (((if obj then jtext (ns.headD []) ++ (w2 ++ [58]) ++ w3 else []) ++ (x0 ++ z)) ++ ((if obj = true then 125 else 93) :: r)) = c1 :: r1 ∧ isBlank c1 = false ∧ c1 ≠ (if obj = true then 125 else 93) := by
                  cases obj with
                  | true => exact ⟨34, _, rfl, rfl, by decide⟩
                  | false =>
                    rw [hx0c]
                    exact ⟨c0, _, rfl, starts_blank hc0, by simpa using (starts_ne hc0).1⟩
                obtain ⟨c1, r1, hcr, hb1, hne1⟩ := hnb
                have hsk3 : skipB s (p + 1) = p + 1 + (w0 ++ (if obj then [] else w3)).length := by
                  rw [hcr] at hdy2; exact skipB_over' hdy2 hb0 hb1
                have hd3 := drop_add hdy2
                have hpk3 : peek s (p + 1 + (w0 ++ (if obj then [] else w3)).length) = c1 := by rw [hcr] at hd3; exact peek_drop hd3
                have hlt3 : p + 1 + (w0 ++ (if obj then [] else w3)).length < s.length := by rw [hcr] at hd3; exact drop_lt hd3
                rw [hsk3, hpk3, if_neg hne1]
                have hlen0 : y.length = (w0 ++ (if obj then [] else w3)).length + ((if obj then jtext (ns.headD []) ++ (w2 ++ [58]) ++ w3 else []) ++ (x0 ++ z)).length := by
                  rw [hyy]; simp only [List.length_append]; omega
                have hb := parts_back s ks obj k0 ns d n (s.length + 1) (p + 1 + (w0 ++ (if obj then [] else w3)).length) (m + 1) [] [] [] w2 (if obj then w3 else []) x0 z r
                  (by omega) (by omega) (by cases obj <;> simp_all) hrk.1 hrk.2 hx0 hz Blanks.nil h2 (by cases obj; exact Blanks.nil; exact h3) (by omega) (by
                    rw [hd3]; cases obj <;> simp) (by simp only [nodes, nodesK] at hm ⊢; omega)
                rw [hb]
                have hnames : (if obj = true then [] ++ ns else []) = ns := by cases obj with
                  | true => simp
                  | false => simp [hn5 rfl]
                rw [hnames, ← hkk]
                simp only [List.nil_append, nodes, nodesK]
                refine congrArg Except.ok (Prod.ext rfl (Prod.ext ?_ ?_))
                · show _ + 1 = p + x.length
                  cases obj <;> simp at hlen0 ⊢ <;> omega
                · show m + 1 + nodes k0 + nodesK ks = m + (1 + (nodes k0 + nodesK ks))
                  omega
termination_by v => sizeOf v
decreasing_by
  all_goals (subst_vars; simp; omega)

theorem parts_back (s : Bytes) : ∀ (ks : List J) (obj : Bool) (k : J) (ns : List Bytes) (d n q i m : Nat) (on : List Bytes) (ok : List J) (w1 w2 w3 x z r : Bytes),
    s.length < i + n → s.length < i + q →
    (obj = true → ns.length = ks.length + 1 ∧ namesOk on ns = true) → right (d + 1) k = true → rightK (d + 1) ks = true → Shows k x → ShowsK obj false ns.tail ks z → Blanks w1 → Blanks w2 → Blanks w3 → i ≤ s.length →
    s.drop i = w1 ++ ((if obj then jtext (ns.headD []) ++ (w2 ++ [58]) else []) ++ (w3 ++ (x ++ (z ++ ((if obj then 125 else 93) :: r))))) → m + nodes k + nodesK ks ≤ 5000 →
    parts (fun i m => value s n (d + 1) i m) s obj q i m on ok =
      .ok (.mk (if obj then 6 else 5) false [] (if obj then on ++ ns else on) (ok ++ (k :: ks)), i + w1.length + ((if obj then jtext (ns.headD []) ++ (w2 ++ [58]) else []) ++ (w3 ++ (x ++ z))).length + 1, m + nodes k + nodesK ks)
  | ks, obj, k, ns, d, n, q, i, m, on, ok, w1, w2, w3, x, z, r, hn, hq, hns, hrk, hrks, hx, hz, hb1, h2, h3, hi, hd, hm => by
    obtain ⟨c, x', hxc, hc⟩ := shows_starts hrk hx
    cases q with
    | zero => omega
    | succ q =>
    -- the name, and the colon
    have h1 : ∃ (t : Bytes) (i1 : Nat) (w' : Bytes), (if obj = true then name s on i else Except.ok ([], i)) = .ok (t, i1) ∧
        i1 + w'.length = i + w1.length + (if obj then jtext (ns.headD []) ++ (w2 ++ [58]) else []).length + w3.length ∧
        (obj = true → t = ns.headD [] ∧ valid t = true ∧ t ∉ on) ∧ i ≤ i1 ∧ Blanks w' ∧ s.drop i1 = w' ++ (x ++ (z ++ ((if obj then 125 else 93) :: r))) := by
      cases obj with
      | false => exact ⟨[], i, w1 ++ w3, rfl, by simp; omega, by simp, by omega, hb1.append h3, by rw [hd]; simp⟩
      | true =>
        have hn := hns rfl
        cases ns with
        | nil => simp at hn
        | cons t ns =>
          simp only [namesOk, Bool.and_eq_true, Bool.not_eq_true', decide_eq_false_iff_not] at hn
          simp only [if_true, List.headD_cons, List.append_assoc] at hd ⊢
          have hd0 : s.drop i = w1 ++ (34 :: (esc t ++ ([34] ++ (w2 ++ ([58] ++ (w3 ++ (x ++ (z ++ 125 :: r)))))))) := by rw [hd]; simp [jtext]
          have hsk : skipB s i = i + w1.length := skipB_over' hd0 hb1 rfl
          have hd00 := drop_add hd
          have ht := text_back hn.2.1.1 hd00
          have hd1 := drop_add hd00
          have hsk1 : skipB s (i + w1.length + (jtext t).length) = i + w1.length + (jtext t).length + w2.length := skipB_over' (c := 58) hd1 h2 rfl
          have hd2 := drop_add hd1
          have hw : word s [58] (i + w1.length + (jtext t).length + w2.length) = .ok (i + w1.length + (jtext t).length + w2.length + 1) := word_back hd2
          refine ⟨t, _, w3, ?_, ?_, fun _ => ⟨rfl, hn.2.1.1, hn.2.1.2⟩, ?_, h3, drop_succ hd2⟩
          · unfold name
            rw [hsk, ht]; simp only
            rw [if_neg hn.2.1.2, hsk1, hw]
          · simp; omega
          · omega
    obtain ⟨t, i1, w', e1, hi1, ht, hle1, hw', hd1⟩ := h1
    have he : ends ((z ++ ((if obj then 125 else 93) :: r)).headD 0) := showsK_ends hz (by cases obj; exact ends_square; exact ends_curly)
    have e2 := value_back s k (d + 1) x hrk hx n i1 m w' (z ++ ((if obj then 125 else 93) :: r)) (by omega) hw' hd1 he (by omega)
    have hd2 := drop_add hd1
    have hd3 := drop_add hd2
    unfold parts
    rw [e1]; simp only
    rw [e2]; simp only
    have hnames : ∀ (nt : List Bytes), obj = true → ns = (ns.headD []) :: ns.tail := fun _ ho => by
      have := (hns ho).1
      cases ns with
      | nil => simp at this
      | cons a b => rfl
    have hlen : ((if obj then jtext (ns.headD []) ++ (w2 ++ [58]) else []) ++ (w3 ++ (x ++ z))).length = (if obj then jtext (ns.headD []) ++ (w2 ++ [58]) else []).length + w3.length + x.length + z.length := by
      simp only [List.length_append]; omega
    have hclb : isBlank (if obj = true then (125 : UInt8) else 93) = false := by cases obj <;> rfl
    cases ks with
    | nil =>
      have hzb : Blanks z := hz
      have hsk : skipB s (i1 + w'.length + x.length) = i1 + w'.length + x.length + z.length := skipB_over' hd3 hzb hclb
      have hd4 := drop_add hd3
      have hp := peek_drop hd4
      have hw : word s [if obj = true then 125 else 93] (i1 + w'.length + x.length + z.length) = .ok (i1 + w'.length + x.length + z.length + 1) := word_back (by rw [hd4]; rfl)
      rw [hsk, hp, if_neg (by cases obj <;> decide), hw]; simp only
      have hnn : (if obj = true then on ++ [t] else on) = (if obj = true then on ++ ns else on) := by
        cases obj with
        | false => rfl
        | true =>
          have h1 := hnames [] rfl
          have h2 := (hns rfl).1
          have h3 := (ht rfl).1
          simp only [if_true]
          rw [h1, h3]
          have : ns.tail = [] := by
            cases ns with
            | nil => rfl
            | cons a b => simpa using h2
          rw [this]
      rw [hnn]
      refine congrArg Except.ok (Prod.ext rfl (Prod.ext ?_ ?_))
      · show _ + 1 = _ + 1
        omega
      · simp [nodesK]
    | cons k' ks =>
      obtain ⟨w0, w1', w2', w3', x0, z', g0, g1, g2, g3, hzz, hx0, hz'⟩ := hz
      simp only [rightK, Bool.and_eq_true] at hrks
      obtain ⟨c0, r0, hx0c, hc0⟩ := shows_starts hrks.1 hx0
      rw [if_neg (by decide)] at hzz
      have hdz : s.drop (i1 + w'.length + x.length) = w0 ++ (44 :: (w1' ++ (((if obj then jtext (ns.tail.headD []) ++ (w2' ++ [58]) else []) ++ (w3' ++ (x0 ++ z'))) ++ ((if obj then 125 else 93) :: r)))) := by
        rw [hd3, hzz]; simp
      have hsk : skipB s (i1 + w'.length + x.length) = i1 + w'.length + x.length + w0.length := skipB_over' hdz g0 rfl
      have hd4 := drop_add hdz
      have hd5 := drop_succ hd4
      rw [hsk, peek_drop hd4, if_pos rfl]
      have hlt4 := drop_lt hd4
      have hns' : obj = true → ns.tail.length = ks.length + 1 ∧ namesOk (on ++ [t]) ns.tail = true := fun ho => by
        have h1 := hnames [] ho
        have h2 := hns ho
        have h3 := (ht ho).1
        rw [h1] at h2
        simp only [List.length_cons, namesOk, Bool.and_eq_true] at h2
        rw [← h3] at h2
        exact ⟨by omega, h2.2.2⟩
      have hb := parts_back s ks obj k' ns.tail d n q (i1 + w'.length + x.length + w0.length + 1) (m + nodes k) (if obj = true then on ++ [t] else on) (ok ++ [k]) w1' w2' w3' x0 z' r
        (by omega) (by omega) (fun ho => by subst ho; exact hns' rfl) hrks.1 hrks.2 hx0 hz' g1 g2 g3 (by omega) (by rw [hd5]; simp) (by simp only [nodesK] at hm; omega)
      rw [hb]
      have hnn : (if obj = true then (if obj = true then on ++ [t] else on) ++ ns.tail else (if obj = true then on ++ [t] else on)) = (if obj = true then on ++ ns else on) := by
        cases obj with
        | false => rfl
        | true =>
          have h1 := hnames [] rfl
          have h3 := (ht rfl).1
          simp only [if_true]
          conv => rhs; rw [h1]
          rw [h3]; simp
      rw [hnn]
      refine congrArg Except.ok (Prod.ext ?_ (Prod.ext ?_ ?_))
      · show J.mk _ _ _ _ _ = J.mk _ _ _ _ _
        simp
      · show _ + 1 = _ + 1
        rw [hzz] at hlen ⊢
        simp only [List.length_append, List.length_cons] at hlen ⊢
        omega
      · simp only [nodesK]; omega
termination_by ks _ k => sizeOf k + sizeOf ks
decreasing_by
  · have : 0 < sizeOf ks := by cases ks <;> simp <;> omega
    omega
  · subst_vars; simp; omega
end
end Cx
