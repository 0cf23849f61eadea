/- What is read of a text has no longer texts and lists than it; how long a value is that is written. The value behind a name of an object; a value in a list and in an object. Numbers: an int written in decimal is a number and is told as it was. What is written of a text, read: the text, or the fault that it is no text; no byte below 32 stands in it. What is read of a text is written in at most six times as many bytes. Blanks laid between the parts of a written value, by a reader of bytes with two marks: what comes out shows the value. Plain law: of what is read as a text, a list or an object no beginning is read. No fault of a parse is the number that says that there is none. Runes, as the document's answer finds them: how many bytes the bytes of a number are asked to be. -/
import Derived.Test.YtejlddimokmgjaaGreatDoorKa
namespace Cx
mutual
/-- All texts and lists are at most so long. -/
def fit (L : Nat) : J → Prop
  | .mk _ _ t ns ks => t.length ≤ L ∧ ns.length ≤ L ∧ (∀ n ∈ ns, n.length ≤ L) ∧ ks.length ≤ L ∧ fitK L ks
def fitK (L : Nat) : List J → Prop
  | [] => True
  | k :: ks => fit L k ∧ fitK L ks
end
theorem fitK_snoc {L : Nat} {k : J} : ∀ {ks : List J}, fitK L ks → fit L k → fitK L (ks ++ [k])
  | [], _, hk => by unfold fitK; exact ⟨hk, by simp [fitK]⟩
  | a :: ks, h, hk => by
    unfold fitK at h
    show fitK L (a :: (ks ++ [k]))
    unfold fitK
    exact ⟨h.1, fitK_snoc h.2 hk⟩

theorem enc_length {v : Nat} (h : v < 65536) : (enc v).length ≤ 3 := by
  unfold enc
  split
  · simp
  · split <;> simp
theorem enc_length4 (v : Nat) : (enc v).length ≤ 4 := by
  unfold enc
  split
  · simp
  · split
    · simp
    · split <;> simp
theorem escape_length {s b : Bytes} {i j : Nat} (h : escape s i = .ok (b, j)) : i + b.length ≤ j := by
  unfold escape at h
  split at h
  · injection h with h; injection h with h1 h2; subst h1 h2; simp
  · split at h
    · cases h
    · rename_i v hv
      have hvl := (unit_ok hv).2
      split at h
      · split at h
        · cases h
        · split at h
          · injection h with h; injection h with h1 h2; subst h1 h2
            have := enc_length4 (0x10000 + (v - 0xD800) * 1024 + (by assumption - 0xDC00))
            omega
          · cases h
      · split at h
        · cases h
        · injection h with h; injection h with h1 h2; subst h1 h2
          have := enc_length hvl; omega
theorem textN_length (s : Bytes) : ∀ (n i : Nat) (acc b : Bytes) (j : Nat), textN s n i acc = .ok (b, j) → b.length + i ≤ acc.length + j
  | 0, i, acc, b, j, h => by unfold textN at h; cases h
  | n + 1, i, acc, b, j, h => by
    rw [textN_succ] at h
    split at h
    · cases h
    · split at h
      · injection h with h; injection h with h1 h2; subst h1 h2; omega
      · split at h
        · split at h
          · cases h
          · rename_i b' j' he
            have h1 := escape_length he
            have := textN_length s n _ _ _ _ h
            simp only [List.length_append] at this; omega
        · split at h
          · cases h
          · have := textN_length s n _ _ _ _ h
            simp only [List.length_append, List.length_take] at this; omega
theorem text_length {s b : Bytes} {i j : Nat} (h : text s i = .ok (b, j)) : b.length + i ≤ j := by
  unfold text at h
  split at h
  · have := textN_length s _ _ _ _ _ h
    simp at this; omega
  · cases h
theorem name_length {s t : Bytes} {l : List Bytes} {i j : Nat} (h : name s l i = .ok (t, j)) : t.length ≤ s.length := by
  unfold name at h
  split at h
  · cases h
  · rename_i t' k ht
    split at h
    · cases h
    · split at h
      · cases h
      · injection h with h; injection h with h1 h2; subst h1
        have := text_length ht; have := text_ok ht; omega

/-- A reader of values that reads none with a longer text or list than the whole text. -/
def Fits (s : Bytes) (val : Nat → Nat → Res (J × Nat × Nat)) : Prop :=
  ∀ i m v j m', i ≤ s.length → m ≤ 5000 → val i m = .ok (v, j, m') → fit s.length v

theorem parts_fit {s : Bytes} {d : Nat} {val : Nat → Nat → Res (J × Nat × Nat)} (hv : Fine s (d + 1) val) (hf : Fits s val) (obj : Bool) :
    ∀ (n i m : Nat) (ns : List Bytes) (ks : List J), i ≤ s.length → m ≤ 5000 → ns.length ≤ i → (∀ x ∈ ns, x.length ≤ s.length) → ks.length ≤ i → fitK s.length ks →
      ∀ v j m', parts val s obj n i m ns ks = .ok (v, j, m') → fit s.length v
  | 0, i, m, ns, ks, _, _, _, _, _, _, v, j, m', h => by unfold parts at h; cases h
  | n + 1, i, m, ns, ks, hi, hm, hnl, hn, hkl, hk, v, j, m', h => by
    unfold parts at h
    cases h1 : (if obj = true then name s ns i else Except.ok ([], i)) with
    | error e => rw [h1] at h; cases h
    | ok a =>
      obtain ⟨t, i1⟩ := a
      rw [h1] at h
      simp only at h
      have hi1 : i ≤ i1 ∧ i1 ≤ s.length ∧ t.length ≤ s.length := by
        cases obj with
        | true => have := name_ok h1; have := name_length h1; omega
        | false => injection h1 with h1; injection h1 with h0 h1; subst h0; subst h1; simp; omega
      cases h2 : val i1 m with
      | error e => rw [h2] at h; cases h
      | ok b =>
        obtain ⟨k, i2, m2⟩ := b
        rw [h2] at h
        simp only at h
        have hkf := hf _ _ _ _ _ hi1.2.1 hm h2
        have hko := hv.ok _ _ _ _ _ hi1.2.1 hm h2
        have hsb := skipB_le (s := s) (i := i2)
        have hsl := skipB_len hko.2.1
        have hk' : fitK s.length (ks ++ [k]) := fitK_snoc hk hkf
        have hn' : ∀ x ∈ (if obj = true then ns ++ [t] else ns), x.length ≤ s.length := by
          intro x hx
          cases obj with
          | true =>
            simp only [if_true, List.mem_append, List.mem_singleton] at hx
            rcases hx with hx | rfl
            · exact hn x hx
            · exact hi1.2.2
          | false => exact hn x (by simpa using hx)
        have hnl' : (if obj = true then ns ++ [t] else ns).length ≤ ns.length + 1 := by
          cases obj <;> simp
        split at h
        · rename_i hc
          have hlt := peek_lt (s := s) (i := skipB s i2) (by rw [hc]; decide)
          exact parts_fit hv hf obj n (skipB s i2 + 1) m2 _ _ (by omega) hko.2.2.2.1 (by omega) hn' (by simp; omega) hk' v j m' h
        · cases h3 : word s [if obj = true then 125 else 93] (skipB s i2) with
          | error e => rw [h3] at h; cases h
          | ok j' =>
            rw [h3] at h
            simp only at h
            injection h with h; injection h with e1 h
            subst e1
            unfold fit
            exact ⟨by simp, by omega, hn', by simp; omega, hk'⟩

theorem word_skip {s w : Bytes} {i m : Nat} {v v' : J} {j m' : Nat} (hv : fit s.length v) (h : (match word s w i with | .error e => .error e | .ok k => .ok (v, k, m) : Res (J × Nat × Nat)) = .ok (v', j, m')) : fit s.length v' := by
  cases hw : word s w i with
  | error e => rw [hw] at h; cases h
  | ok k => rw [hw] at h; injection h with h; injection h with e1 h; subst e1; exact hv
theorem fit_leaf {L : Nat} {k : Int} {b : Bool} {t : Bytes} (h : t.length ≤ L) : fit L (.mk k b t [] []) := by
  unfold fit; exact ⟨h, by simp, by simp, by simp, by simp [fitK]⟩

theorem value_fit (s : Bytes) : ∀ (n d : Nat), d ≤ 20 → Fits s (fun i m => value s n d i m)
  | 0, d, _ => fun _ _ _ _ _ _ _ h => by simp only [value] at h; cases h
  | n + 1, d, hd => by
    intro i m v j m' hi hm h
    have hle := skipB_le (s := s) (i := i)
    have hlen := skipB_len hi
    simp only [value] at h
    generalize skipB s i = p at *
    split at h
    · cases h
    · rename_i hst
      have hst : starts (peek s p) = true := by simpa using hst
      have hplt := peek_lt (starts_ne hst).2.2
      split at h
      · cases h
      · split at h
        · exact word_skip (fit_leaf (by simp)) h
        · split at h
          · exact word_skip (fit_leaf (by simp)) h
          · split at h
            · exact word_skip (fit_leaf (by simp)) h
            · split at h
              · cases ht : text s p with
                | error e => rw [ht] at h; cases h
                | ok a =>
                  obtain ⟨t, k⟩ := a
                  rw [ht] at h
                  injection h with h; injection h with e1 h
                  subst e1
                  have := text_length ht; have := text_ok ht
                  exact fit_leaf (by omega)
              · split at h
                · split at h
                  · cases h
                  · have hf := value_fine s n (d + 1) (by omega)
                    have hft := value_fit s n (d + 1) (by omega)
                    have hsb := skipB_le (s := s) (i := p + 1)
                    have hsl := skipB_len (s := s) (i := p + 1) (by omega)
                    unfold group at h
                    by_cases hc : peek s (skipB s (p + 1)) = (if decide (peek s p = 123) = true then 125 else 93)
                    · rw [if_pos hc] at h
                      injection h with h; injection h with e1 h
                      subst e1
                      exact fit_leaf (by simp)
                    · rw [if_neg hc] at h
                      exact parts_fit hf hft _ _ _ _ _ _ (by omega) (by omega) (by simp) (by simp) (by simp) (by simp [fitK]) _ _ _ h
                · cases hn : number s p with
                  | error e => rw [hn] at h; cases h
                  | ok k =>
                    rw [hn] at h
                    injection h with h; injection h with e1 h
                    subst e1
                    have := number_ok hn
                    exact fit_leaf (by simp; omega)

theorem parse_fit {s : Bytes} {v : J} (h : parse s = .ok v) : fit s.length v := by
  unfold parse at h
  split at h
  · cases h
  · split at h
    · cases h
    · rename_i v' i m' hv
      have := value_fit s (s.length + 1) 0 (by omega) 0 0 _ _ _ (by omega) (by omega) hv
      split at h
      · cases h
      · injection h with h; subst h; exact this

end Cx
namespace Cx

/-- The value behind a name, of an object. -/
def get : J → Bytes → Option J
  | .mk k _ _ ns ks, n => if k = 6 ∧ n ∈ ns then ks[ns.idxOf n]? else none


end Cx
namespace Cx

/-- What digits say. -/
def digVal (l : Bytes) : Nat := l.foldl (fun n c => 10 * n + (c.toNat - 48)) 0
/-- Without a minus ahead. -/
def unsign (t : Bytes) : Bytes := match t with | 45 :: r => r | t => t
/-- The int that a number is, if it has at most fifteen digits and nothing else. -/
def toIntT (t : Bytes) : Option Int :=
  if unsign t ≠ [] ∧ (unsign t).length ≤ 15 ∧ (unsign t).all isDig = true
  then some (if t.head? = some 45 then -(digVal (unsign t) : Int) else (digVal (unsign t) : Int)) else none
def toInt : J → Option Int
  | .mk k _ t _ _ => if k = 3 then toIntT t else none

theorem digVal_snoc (l : Bytes) (c : UInt8) : digVal (l ++ [c]) = 10 * digVal l + (c.toNat - 48) := by
  unfold digVal; rw [List.foldl_append]; rfl
end Cx
namespace Cx

end Cx
namespace Cx

end Cx
namespace Cx

/-! ### The bytes of a number -/
def numB (c : UInt8) : Prop := isDig c = true ∨ c ∈ ([45, 46, 101, 69, 43] : Bytes)

end Cx
namespace Cx

end Cx
namespace Cx

theorem word_errne {s : Bytes} : ∀ {w : Bytes} {i : Nat} {e : Nat × Nat}, word s w i = .error e → e.1 ≠ 0
  | [], _, _, h => by unfold word at h; cases h
  | c :: w, i, e, h => by
    unfold word at h
    split at h
    · exact word_errne h
    · injection h with h; subst h; simp
theorem digits_errne {s : Bytes} {i : Nat} {e : Nat × Nat} (h : digits s i = .error e) : e.1 ≠ 0 := by
  rw [digits_err h]; simp
theorem number_errne {s : Bytes} {i : Nat} {e : Nat × Nat} (h : number s i = .error e) : e.1 ≠ 0 := by
  unfold number at h
  split at h
  · rename_i e' h1
    injection h with h; subst h
    unfold numInt at h1
    split at h1
    · exact digits_errne h1
    · cases h1
  · split at h
    · rename_i e' h1
      injection h with h; subst h
      unfold numFrac at h1
      split at h1
      · cases h1
      · exact digits_errne h1
    · split at h
      · rename_i e' h1
        injection h with h; subst h
        unfold numExp at h1
        split at h1
        · cases h1
        · exact digits_errne h1
      · split at h
        · injection h with h; subst h; simp
        · cases h
theorem textN_errne {s : Bytes} : ∀ {n i : Nat} {acc : Bytes} {e : Nat × Nat}, textN s n i acc = .error e → e.1 ≠ 0
  | 0, i, acc, e, h => by unfold textN at h; injection h with h; subst h; simp
  | n + 1, i, acc, e, h => by
    rw [textN_succ] at h
    split at h
    · injection h with h; subst h; simp
    · split at h
      · cases h
      · split at h
        · split at h
          · rename_i e' he
            injection h with h; subst h
            rw [escape_err he]; simp
          · exact textN_errne h
        · split at h
          · injection h with h; subst h; simp
          · exact textN_errne h
theorem text_errne {s : Bytes} {i : Nat} {e : Nat × Nat} (h : text s i = .error e) : e.1 ≠ 0 := by
  unfold text at h
  split at h
  · exact textN_errne h
  · injection h with h; subst h; simp
theorem name_errne {s : Bytes} {l : List Bytes} {i : Nat} {e : Nat × Nat} (h : name s l i = .error e) : e.1 ≠ 0 := by
  unfold name at h
  split at h
  · rename_i e' he
    injection h with h; subst h
    exact text_errne he
  · split at h
    · injection h with h; subst h; simp
    · split at h
      · rename_i e' he
        injection h with h; subst h
        exact word_errne he
      · cases h
theorem parts_errne {s : Bytes} {val : Nat → Nat → Res (J × Nat × Nat)} (hv : ∀ i m e, val i m = .error e → e.1 ≠ 0) (obj : Bool) :
    ∀ {n i m : Nat} {ns : List Bytes} {ks : List J} {e : Nat × Nat}, parts val s obj n i m ns ks = .error e → e.1 ≠ 0
  | 0, i, m, ns, ks, e, h => by unfold parts at h; injection h with h; subst h; simp
  | n + 1, i, m, ns, ks, e, h => by
    unfold parts at h
    cases h1 : (if obj = true then name s ns i else Except.ok ([], i)) with
    | error e' =>
      rw [h1] at h
      injection h with h; subst h
      cases obj with
      | true => exact name_errne h1
      | false => cases h1
    | ok a =>
      obtain ⟨t, i1⟩ := a
      rw [h1] at h
      simp only at h
      cases h2 : val i1 m with
      | error e' =>
        rw [h2] at h
        injection h with h; subst h
        exact hv _ _ _ h2
      | ok b =>
        obtain ⟨k, i2, m2⟩ := b
        rw [h2] at h
        simp only at h
        split at h
        · exact parts_errne hv obj h
        · cases h3 : word s [if obj = true then 125 else 93] (skipB s i2) with
          | error e' =>
            rw [h3] at h
            injection h with h; subst h
            exact word_errne h3
          | ok j => rw [h3] at h; cases h
theorem wordv_errne {s w : Bytes} {i m : Nat} {v : J} {e : Nat × Nat} (h : (match word s w i with | .error e => .error e | .ok k => .ok (v, k, m) : Res (J × Nat × Nat)) = .error e) : e.1 ≠ 0 := by
  cases hw : word s w i with
  | error e' => rw [hw] at h; injection h with h; subst h; exact word_errne hw
  | ok k => rw [hw] at h; cases h
theorem value_errne (s : Bytes) : ∀ (n d i m : Nat) (e : Nat × Nat), value s n d i m = .error e → e.1 ≠ 0
  | 0, d, i, m, e, h => by simp only [value] at h; injection h with h; subst h; simp
  | n + 1, d, i, m, e, h => by
    simp only [value] at h
    generalize skipB s i = p at *
    split at h
    · injection h with h; subst h; simp
    · split at h
      · injection h with h; subst h; simp
      · split at h
        · exact wordv_errne h
        · split at h
          · exact wordv_errne h
          · split at h
            · exact wordv_errne h
            · split at h
              · cases ht : text s p with
                | error e' => rw [ht] at h; injection h with h; subst h; exact text_errne ht
                | ok a => rw [ht] at h; cases h
              · split at h
                · split at h
                  · injection h with h; subst h; simp
                  · unfold group at h
                    by_cases hc : peek s (skipB s (p + 1)) = (if decide (peek s p = 123) = true then 125 else 93)
                    · rw [if_pos hc] at h; cases h
                    · rw [if_neg hc] at h
                      exact parts_errne (fun i m e h => value_errne s n (d + 1) i m e h) _ h
                · cases hn : number s p with
                  | error e' => rw [hn] at h; injection h with h; subst h; exact number_errne hn
                  | ok k => rw [hn] at h; cases h
theorem parse_errne {s : Bytes} {e : Nat × Nat} (h : parse s = .error e) : e.1 ≠ 0 := by
  unfold parse at h
  split at h
  · injection h with h; subst h; simp
  · split at h
    · rename_i e' hv
      injection h with h; subst h
      exact value_errne _ _ _ _ _ _ hv
    · split at h
      · injection h with h; subst h; simp
      · cases h
end Cx
namespace Cx

def isRune (v : Int) : Bool := decide (0 ≤ v) && decide (v ≤ 1114111) && (decide (v < 55296) || decide (57343 < v))
def rstep (v : Int) (c : UInt8) : Int := 64 * v + c.toNat - 128
def rbase (n : Nat) (a : UInt8) : Int := if n = 2 then (a.toNat : Int) - 192 else if n = 3 then (a.toNat : Int) - 224 else if n = 4 then (a.toNat : Int) - 240 else a.toNat
/-- What n bytes say as a rune. -/
def runeV (n : Nat) (l : Bytes) : Int := ((l.drop 1).take (n - 1)).foldl rstep (rbase n (l.headD 0))

theorem isRune_iff {v : Int} : isRune v = true ↔ 0 ≤ v ∧ v ≤ 1114111 ∧ (v < 55296 ∨ 57343 < v) := by
  simp [isRune, and_assoc]
theorem u8_eq_iff (a : UInt8) (n : Nat) (h : n < 256) : UInt8.ofNat n = a ↔ a.toNat = n := by
  constructor
  · intro e; rw [← e]; simp [UInt8.toNat_ofNat']; omega
  · intro e; apply UInt8.toNat_inj.1; simp [UInt8.toNat_ofNat']; omega
theorem cont_iff {c : UInt8} : cont c = true ↔ 128 ≤ c.toNat ∧ c.toNat ≤ 191 := by
  simp only [cont, Bool.and_eq_true, decide_eq_true_eq, UInt8.le_iff_toNat_le]; exact Iff.rfl

theorem rune_one (a : UInt8) (r : Bytes) : (isRune (runeV 1 (a :: r)) = true ∧ enc (runeV 1 (a :: r)).toNat = [a]) ↔ runeLen (a :: r) = 1 := by
  have e : runeV 1 (a :: r) = a.toNat := rfl
  rw [e]
  have ha := a.toNat_lt
  have h1 : isRune a.toNat = true := isRune_iff.2 (by omega)
  have h2 : runeLen (a :: r) = 1 ↔ a.toNat < 128 := by
    show runeLenC a r = 1 ↔ _
    unfold runeLenC
    have : (a < 128) ↔ a.toNat < 128 := by rw [UInt8.lt_iff_toNat_lt]; exact Iff.rfl
    by_cases h : a < 128
    · rw [if_pos h]; exact ⟨fun _ => this.1 h, fun _ => rfl⟩
    · rw [if_neg h]
      constructor
      · intro h'; repeat' split at h'
        all_goals cases h'
      · intro h'; exact absurd (this.2 h') h
  rw [h2]
  constructor
  · rintro ⟨_, h⟩
    rcases Nat.lt_or_ge a.toNat 128 with g | g
    · exact g
    · exfalso
      unfold enc at h
      simp only [Int.toNat_natCast] at h
      rw [if_neg (by omega), if_pos (by omega)] at h
      simp at h
  · intro h
    refine ⟨h1, ?_⟩
    unfold enc
    simp only [Int.toNat_natCast]
    rw [if_pos (by omega)]
    simp

theorem runeLenC_two (a b : UInt8) (r : Bytes) : runeLenC a (b :: r) = 2 ↔ (194 ≤ a.toNat ∧ a.toNat ≤ 223) ∧ (128 ≤ b.toNat ∧ b.toNat ≤ 191) := by
  unfold runeLenC
  simp only [UInt8.lt_iff_toNat_lt, UInt8.le_iff_toNat_le, cont_iff, List.getD_cons_zero, List.getD_cons_succ]
  simp only [show (128 : UInt8).toNat = 128 from rfl, show (194 : UInt8).toNat = 194 from rfl, show (223 : UInt8).toNat = 223 from rfl, show (224 : UInt8).toNat = 224 from rfl, show (239 : UInt8).toNat = 239 from rfl, show (240 : UInt8).toNat = 240 from rfl, show (244 : UInt8).toNat = 244 from rfl]
  constructor
  · intro h
    repeat' split at h
    all_goals first | omega | (exfalso; revert h; decide) | skip
  · intro h
    rw [if_neg (by omega), if_pos (by omega), if_pos h.2]
theorem rune_two (a b : UInt8) (r : Bytes) : (isRune (runeV 2 (a :: b :: r)) = true ∧ enc (runeV 2 (a :: b :: r)).toNat = [a, b]) ↔ runeLen (a :: b :: r) = 2 := by
  have ha := a.toNat_lt; have hb := b.toNat_lt
  show _ ↔ runeLenC a (b :: r) = 2
  rw [runeLenC_two]
  have e : runeV 2 (a :: b :: r) = 64 * ((a.toNat : Int) - 192) + b.toNat - 128 := rfl
  rw [e, isRune_iff]
  constructor
  · rintro ⟨⟨h0, h1, h2⟩, h⟩
    obtain ⟨v, hv⟩ : ∃ v : Nat, (v : Int) = 64 * ((a.toNat : Int) - 192) + b.toNat - 128 := ⟨(64 * ((a.toNat : Int) - 192) + b.toNat - 128).toNat, by omega⟩
    rw [← hv] at h
    simp only [Int.toNat_natCast] at h
    unfold enc at h
    by_cases g1 : v < 128
    · rw [if_pos g1] at h; simp at h
    · rw [if_neg g1] at h
      by_cases g2 : v < 2048
      · rw [if_pos g2] at h
        injection h with ea h
        injection h with eb _
        rw [u8_eq_iff _ _ (by omega)] at ea eb
        omega
      · rw [if_neg g2] at h
        split at h <;> simp at h
  · intro h
    refine ⟨by omega, ?_⟩
    obtain ⟨v, hv⟩ : ∃ v : Nat, (v : Int) = 64 * ((a.toNat : Int) - 192) + b.toNat - 128 := ⟨(64 * ((a.toNat : Int) - 192) + b.toNat - 128).toNat, by omega⟩
    rw [← hv]
    simp only [Int.toNat_natCast]
    unfold enc
    rw [if_neg (by omega), if_pos (by omega), (u8_eq_iff a _ (by omega)).2 (by omega), (u8_eq_iff b _ (by omega)).2 (by omega)]

theorem runeLenC_three (a b c : UInt8) (r : Bytes) : runeLenC a (b :: c :: r) = 3 ↔ (224 ≤ a.toNat ∧ a.toNat ≤ 239) ∧ (128 ≤ b.toNat ∧ b.toNat ≤ 191) ∧ (128 ≤ c.toNat ∧ c.toNat ≤ 191) ∧ (a.toNat = 224 → 160 ≤ b.toNat) ∧ (a.toNat = 237 → b.toNat ≤ 159) := by
  unfold runeLenC
  have e1 : ∀ k : UInt8, a = k ↔ a.toNat = k.toNat := fun k => UInt8.toNat_inj.symm
  simp only [UInt8.lt_iff_toNat_lt, UInt8.le_iff_toNat_le, cont_iff, List.getD_cons_zero, List.getD_cons_succ, e1]
  simp only [show (128 : UInt8).toNat = 128 from rfl, show (194 : UInt8).toNat = 194 from rfl, show (223 : UInt8).toNat = 223 from rfl, show (224 : UInt8).toNat = 224 from rfl, show (239 : UInt8).toNat = 239 from rfl, show (240 : UInt8).toNat = 240 from rfl, show (244 : UInt8).toNat = 244 from rfl, show (237 : UInt8).toNat = 237 from rfl, show (160 : UInt8).toNat = 160 from rfl, show (159 : UInt8).toNat = 159 from rfl]
  constructor
  · intro h
    repeat' split at h
    all_goals first | omega | (exfalso; revert h; decide) | skip
  · intro h
    rw [if_neg (by omega), if_neg (by omega), if_pos (by omega), if_pos h.2]
theorem rune_three (a b c : UInt8) (r : Bytes) : (isRune (runeV 3 (a :: b :: c :: r)) = true ∧ enc (runeV 3 (a :: b :: c :: r)).toNat = [a, b, c]) ↔ runeLen (a :: b :: c :: r) = 3 := by
  have ha := a.toNat_lt; have hb := b.toNat_lt; have hc := c.toNat_lt
  show _ ↔ runeLenC a (b :: c :: r) = 3
  rw [runeLenC_three]
  have e : runeV 3 (a :: b :: c :: r) = 64 * (64 * ((a.toNat : Int) - 224) + b.toNat - 128) + c.toNat - 128 := rfl
  rw [e, isRune_iff]
  constructor
  · rintro ⟨⟨h0, h1, h2⟩, h⟩
    obtain ⟨v, hv⟩ : ∃ v : Nat, (v : Int) = 64 * (64 * ((a.toNat : Int) - 224) + b.toNat - 128) + c.toNat - 128 := ⟨(64 * (64 * ((a.toNat : Int) - 224) + b.toNat - 128) + c.toNat - 128).toNat, by omega⟩
    rw [← hv] at h
    simp only [Int.toNat_natCast] at h
    unfold enc at h
    by_cases g1 : v < 128
    · rw [if_pos g1] at h; simp at h
    · rw [if_neg g1] at h
      by_cases g2 : v < 2048
      · rw [if_pos g2] at h; simp at h
      · rw [if_neg g2] at h
        by_cases g3 : v < 65536
        · rw [if_pos g3] at h
          injection h with ea h
          injection h with eb h
          injection h with ec _
          rw [u8_eq_iff _ _ (by omega)] at ea eb ec
          omega
        · rw [if_neg g3] at h; simp at h
  · intro h
    refine ⟨by omega, ?_⟩
    obtain ⟨v, hv⟩ : ∃ v : Nat, (v : Int) = 64 * (64 * ((a.toNat : Int) - 224) + b.toNat - 128) + c.toNat - 128 := ⟨(64 * (64 * ((a.toNat : Int) - 224) + b.toNat - 128) + c.toNat - 128).toNat, by omega⟩
    rw [← hv]
    simp only [Int.toNat_natCast]
    unfold enc
    rw [if_neg (by omega), if_neg (by omega), if_pos (by omega), (u8_eq_iff a _ (by omega)).2 (by omega), (u8_eq_iff b _ (by omega)).2 (by omega), (u8_eq_iff c _ (by omega)).2 (by omega)]

theorem runeLenC_four (a b c d : UInt8) (r : Bytes) : runeLenC a (b :: c :: d :: r) = 4 ↔ (240 ≤ a.toNat ∧ a.toNat ≤ 244) ∧ (128 ≤ b.toNat ∧ b.toNat ≤ 191) ∧ (128 ≤ c.toNat ∧ c.toNat ≤ 191) ∧ (128 ≤ d.toNat ∧ d.toNat ≤ 191) ∧ (a.toNat = 240 → 144 ≤ b.toNat) ∧ (a.toNat = 244 → b.toNat ≤ 143) := by
  unfold runeLenC
  have e1 : ∀ k : UInt8, a = k ↔ a.toNat = k.toNat := fun k => UInt8.toNat_inj.symm
  simp only [UInt8.lt_iff_toNat_lt, UInt8.le_iff_toNat_le, cont_iff, List.getD_cons_zero, List.getD_cons_succ, e1]
  simp only [show (128 : UInt8).toNat = 128 from rfl, show (194 : UInt8).toNat = 194 from rfl, show (223 : UInt8).toNat = 223 from rfl, show (224 : UInt8).toNat = 224 from rfl, show (239 : UInt8).toNat = 239 from rfl, show (240 : UInt8).toNat = 240 from rfl, show (244 : UInt8).toNat = 244 from rfl, show (144 : UInt8).toNat = 144 from rfl, show (143 : UInt8).toNat = 143 from rfl]
  constructor
  · intro h
    repeat' split at h
    all_goals first | omega | (exfalso; revert h; decide) | skip
  · intro h
    rw [if_neg (by omega), if_neg (by omega), if_neg (by omega), if_pos (by omega), if_pos h.2]
theorem rune_four (a b c d : UInt8) (r : Bytes) : (isRune (runeV 4 (a :: b :: c :: d :: r)) = true ∧ enc (runeV 4 (a :: b :: c :: d :: r)).toNat = [a, b, c, d]) ↔ runeLen (a :: b :: c :: d :: r) = 4 := by
  have ha := a.toNat_lt; have hb := b.toNat_lt; have hc := c.toNat_lt; have hd := d.toNat_lt
  show _ ↔ runeLenC a (b :: c :: d :: r) = 4
  rw [runeLenC_four]
  have e : runeV 4 (a :: b :: c :: d :: r) = 64 * (64 * (64 * ((a.toNat : Int) - 240) + b.toNat - 128) + c.toNat - 128) + d.toNat - 128 := rfl
  rw [e, isRune_iff]
  constructor
  · rintro ⟨⟨h0, h1, h2⟩, h⟩
    obtain ⟨v, hv⟩ : ∃ v : Nat, (v : Int) = 64 * (64 * (64 * ((a.toNat : Int) - 240) + b.toNat - 128) + c.toNat - 128) + d.toNat - 128 := ⟨(64 * (64 * (64 * ((a.toNat : Int) - 240) + b.toNat - 128) + c.toNat - 128) + d.toNat - 128).toNat, by omega⟩
    rw [← hv] at h
    simp only [Int.toNat_natCast] at h
    unfold enc at h
    by_cases g1 : v < 128
    · rw [if_pos g1] at h; simp at h
    · rw [if_neg g1] at h
      by_cases g2 : v < 2048
      · rw [if_pos g2] at h; simp at h
      · rw [if_neg g2] at h
        by_cases g3 : v < 65536
        · rw [if_pos g3] at h; simp at h
        · rw [if_neg g3] at h
          injection h with ea h
          injection h with eb h
          injection h with ec h
          injection h with ed _
          rw [u8_eq_iff _ _ (by omega)] at ea eb ec ed
          omega
  · intro h
    refine ⟨by omega, ?_⟩
    obtain ⟨v, hv⟩ : ∃ v : Nat, (v : Int) = 64 * (64 * (64 * ((a.toNat : Int) - 240) + b.toNat - 128) + c.toNat - 128) + d.toNat - 128 := ⟨(64 * (64 * (64 * ((a.toNat : Int) - 240) + b.toNat - 128) + c.toNat - 128) + d.toNat - 128).toNat, by omega⟩
    rw [← hv]
    simp only [Int.toNat_natCast]
    unfold enc
    rw [if_neg (by omega), if_neg (by omega), if_neg (by omega), (u8_eq_iff a _ (by omega)).2 (by omega), (u8_eq_iff b _ (by omega)).2 (by omega), (u8_eq_iff c _ (by omega)).2 (by omega), (u8_eq_iff d _ (by omega)).2 (by omega)]

/-- The number of a rune's bytes is the one whose number's bytes they are. -/
theorem rune_n (l : Bytes) (n : Nat) (h1 : 1 ≤ n) (h4 : n ≤ 4) (hl : n ≤ l.length) : (isRune (runeV n l) = true ∧ enc (runeV n l).toNat = l.take n) ↔ runeLen l = n := by
  have hn : n = 1 ∨ n = 2 ∨ n = 3 ∨ n = 4 := by omega
  rcases hn with rfl | rfl | rfl | rfl
  · match l, hl with
    | a :: r, _ => exact rune_one a r
  · match l, hl with
    | a :: b :: r, _ => exact rune_two a b r
    | [_], hl => simp at hl
  · match l, hl with
    | a :: b :: c :: r, _ => exact rune_three a b c r
    | [_, _], hl => simp at hl
    | [_], hl => simp at hl
  · match l, hl with
    | a :: b :: c :: d :: r, _ => exact rune_four a b c d r
    | [_, _, _], hl => simp at hl
    | [_, _], hl => simp at hl
    | [_], hl => simp at hl
end Cx
