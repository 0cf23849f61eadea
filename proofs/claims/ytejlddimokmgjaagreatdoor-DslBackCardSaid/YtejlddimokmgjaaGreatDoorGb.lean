/- What is read of a text has no longer texts and lists than it; how long a value is that is written. The value behind a name of an object; a value in a list and in an object. Numbers: an int written in decimal is a number and is told as it was. What is written of a text, read: the text, or the fault that it is no text; no byte below 32 stands in it. What is read of a text is written in at most six times as many bytes. Blanks laid between the parts of a written value, by a reader of bytes with two marks: what comes out shows the value. Plain law: of what is read as a text, a list or an object no beginning is read. No fault of a parse is the number that says that there is none. Runes, as the document's answer finds them: how many bytes the bytes of a number are asked to be. -/
import Derived.Test.YtejlddimokmgjaaGreatDoorGa
namespace Cx
mutual
/-- All texts and lists are at most so long. -/
def fit (L : Nat) : J → Prop
  | .mk _ _ t ns ks => t.length ≤ L ∧ ns.length ≤ L ∧ (∀ n ∈ ns, n.length ≤ L) ∧ ks.length ≤ L ∧ fitK L ks
def fitK (L : Nat) : List J → Prop
  | [] => True
  | k :: ks => fit L k ∧ fitK L ks
end
theorem fitK_snoc {L : Nat} {k : J} : ∀ {ks : List J}, fitK L ks → fit L k → fitK L (ks ++ [k])
  | [], _, hk => by unfold fitK; exact ⟨hk, by simp [fitK]⟩
  | a :: ks, h, hk => by
    unfold fitK at h
    show fitK L (a :: (ks ++ [k]))
    unfold fitK
    exact ⟨h.1, fitK_snoc h.2 hk⟩

theorem enc_length {v : Nat} (h : v < 65536) : (enc v).length ≤ 3 := by
  unfold enc
  split
  · simp
  · split <;> simp
theorem enc_length4 (v : Nat) : (enc v).length ≤ 4 := by
  unfold enc
  split
  · simp
  · split
    · simp
    · split <;> simp
theorem escape_length {s b : Bytes} {i j : Nat} (h : escape s i = .ok (b, j)) : i + b.length ≤ j := by
  unfold escape at h
  split at h
  · injection h with h; injection h with h1 h2; subst h1 h2; simp
  · split at h
    · cases h
    · rename_i v hv
      have hvl := (unit_ok hv).2
      split at h
      · split at h
        · cases h
        · split at h
          · injection h with h; injection h with h1 h2; subst h1 h2
            have := enc_length4 (0x10000 + (v - 0xD800) * 1024 + (by assumption - 0xDC00))
            omega
          · cases h
      · split at h
        · cases h
        · injection h with h; injection h with h1 h2; subst h1 h2
          have := enc_length hvl; omega
theorem textN_length (s : Bytes) : ∀ (n i : Nat) (acc b : Bytes) (j : Nat), textN s n i acc = .ok (b, j) → b.length + i ≤ acc.length + j
  | 0, i, acc, b, j, h => by unfold textN at h; cases h
  | n + 1, i, acc, b, j, h => by
    rw [textN_succ] at h
    split at h
    · cases h
    · split at h
      · injection h with h; injection h with h1 h2; subst h1 h2; omega
      · split at h
        · split at h
          · cases h
          · rename_i b' j' he
            have h1 := escape_length he
            have := textN_length s n _ _ _ _ h
            simp only [List.length_append] at this; omega
        · split at h
          · cases h
          · have := textN_length s n _ _ _ _ h
            simp only [List.length_append, List.length_take] at this; omega
theorem text_length {s b : Bytes} {i j : Nat} (h : text s i = .ok (b, j)) : b.length + i ≤ j := by
  unfold text at h
  split at h
  · have := textN_length s _ _ _ _ _ h
    simp at this; omega
  · cases h
theorem name_length {s t : Bytes} {l : List Bytes} {i j : Nat} (h : name s l i = .ok (t, j)) : t.length ≤ s.length := by
  unfold name at h
  split at h
  · cases h
  · rename_i t' k ht
    split at h
    · cases h
    · split at h
      · cases h
      · injection h with h; injection h with h1 h2; subst h1
        have := text_length ht; have := text_ok ht; omega

/-- A reader of values that reads none with a longer text or list than the whole text. -/
def Fits (s : Bytes) (val : Nat → Nat → Res (J × Nat × Nat)) : Prop :=
  ∀ i m v j m', i ≤ s.length → m ≤ 5000 → val i m = .ok (v, j, m') → fit s.length v

theorem parts_fit {s : Bytes} {d : Nat} {val : Nat → Nat → Res (J × Nat × Nat)} (hv : Fine s (d + 1) val) (hf : Fits s val) (obj : Bool) :
    ∀ (n i m : Nat) (ns : List Bytes) (ks : List J), i ≤ s.length → m ≤ 5000 → ns.length ≤ i → (∀ x ∈ ns, x.length ≤ s.length) → ks.length ≤ i → fitK s.length ks →
      ∀ v j m', parts val s obj n i m ns ks = .ok (v, j, m') → fit s.length v
  | 0, i, m, ns, ks, _, _, _, _, _, _, v, j, m', h => by unfold parts at h; cases h
  | n + 1, i, m, ns, ks, hi, hm, hnl, hn, hkl, hk, v, j, m', h => by
    unfold parts at h
    cases h1 : (if obj = true then name s ns i else Except.ok ([], i)) with
    | error e => rw [h1] at h; cases h
    | ok a =>
      obtain ⟨t, i1⟩ := a
      rw [h1] at h
      simp only at h
      have hi1 : i ≤ i1 ∧ i1 ≤ s.length ∧ t.length ≤ s.length := by
        cases obj with
        | true => have := name_ok h1; have := name_length h1; omega
        | false => injection h1 with h1; injection h1 with h0 h1; subst h0; subst h1; simp; omega
      cases h2 : val i1 m with
      | error e => rw [h2] at h; cases h
      | ok b =>
        obtain ⟨k, i2, m2⟩ := b
        rw [h2] at h
        simp only at h
        have hkf := hf _ _ _ _ _ hi1.2.1 hm h2
        have hko := hv.ok _ _ _ _ _ hi1.2.1 hm h2
        have hsb := skipB_le (s := s) (i := i2)
        have hsl := skipB_len hko.2.1
        have hk' : fitK s.length (ks ++ [k]) := fitK_snoc hk hkf
        have hn' : ∀ x ∈ (if obj = true then ns ++ [t] else ns), x.length ≤ s.length := by
          intro x hx
          cases obj with
          | true =>
            simp only [if_true, List.mem_append, List.mem_singleton] at hx
            rcases hx with hx | rfl
            · exact hn x hx
            · exact hi1.2.2
          | false => exact hn x (by simpa using hx)
        have hnl' : (if obj = true then ns ++ [t] else ns).length ≤ ns.length + 1 := by
          cases obj <;> simp
        split at h
        · rename_i hc
          have hlt := peek_lt (s := s) (i := skipB s i2) (by rw [hc]; decide)
          exact parts_fit hv hf obj n (skipB s i2 + 1) m2 _ _ (by omega) hko.2.2.2.1 (by omega) hn' (by simp; omega) hk' v j m' h
        · cases h3 : word s [if obj = true then 125 else 93] (skipB s i2) with
          | error e => rw [h3] at h; cases h
          | ok j' =>
            rw [h3] at h
            simp only at h
            injection h with h; injection h with e1 h
            subst e1
            unfold fit
            exact ⟨by simp, by omega, hn', by simp; omega, hk'⟩

theorem word_skip {s w : Bytes} {i m : Nat} {v v' : J} {j m' : Nat} (hv : fit s.length v) (h : (match word s w i with | .error e => .error e | .ok k => .ok (v, k, m) : Res (J × Nat × Nat)) = .ok (v', j, m')) : fit s.length v' := by
  cases hw : word s w i with
  | error e => rw [hw] at h; cases h
  | ok k => rw [hw] at h; injection h with h; injection h with e1 h; subst e1; exact hv
theorem fit_leaf {L : Nat} {k : Int} {b : Bool} {t : Bytes} (h : t.length ≤ L) : fit L (.mk k b t [] []) := by
  unfold fit; exact ⟨h, by simp, by simp, by simp, by simp [fitK]⟩

theorem value_fit (s : Bytes) : ∀ (n d : Nat), d ≤ 20 → Fits s (fun i m => value s n d i m)
  | 0, d, _ => fun _ _ _ _ _ _ _ h => by simp only [value] at h; cases h
  | n + 1, d, hd => by
    intro i m v j m' hi hm h
    have hle := skipB_le (s := s) (i := i)
    have hlen := skipB_len hi
    simp only [value] at h
    generalize skipB s i = p at *
    split at h
    · cases h
    · rename_i hst
      have hst : starts (peek s p) = true := by simpa using hst
      have hplt := peek_lt (starts_ne hst).2.2
      split at h
      · cases h
      · split at h
        · exact word_skip (fit_leaf (by simp)) h
        · split at h
          · exact word_skip (fit_leaf (by simp)) h
          · split at h
            · exact word_skip (fit_leaf (by simp)) h
            · split at h
              · cases ht : text s p with
                | error e => rw [ht] at h; cases h
                | ok a =>
                  obtain ⟨t, k⟩ := a
                  rw [ht] at h
                  injection h with h; injection h with e1 h
                  subst e1
                  have := text_length ht; have := text_ok ht
                  exact fit_leaf (by omega)
              · split at h
                · split at h
                  · cases h
                  · have hf := value_fine s n (d + 1) (by omega)
                    have hft := value_fit s n (d + 1) (by omega)
                    have hsb := skipB_le (s := s) (i := p + 1)
                    have hsl := skipB_len (s := s) (i := p + 1) (by omega)
                    unfold group at h
                    by_cases hc : peek s (skipB s (p + 1)) = (if decide (peek s p = 123) = true then 125 else 93)
                    · rw [if_pos hc] at h
                      injection h with h; injection h with e1 h
                      subst e1
                      exact fit_leaf (by simp)
                    · rw [if_neg hc] at h
                      exact parts_fit hf hft _ _ _ _ _ _ (by omega) (by omega) (by simp) (by simp) (by simp) (by simp [fitK]) _ _ _ h
                · cases hn : number s p with
                  | error e => rw [hn] at h; cases h
                  | ok k =>
                    rw [hn] at h
                    injection h with h; injection h with e1 h
                    subst e1
                    have := number_ok hn
                    exact fit_leaf (by simp; omega)

theorem parse_fit {s : Bytes} {v : J} (h : parse s = .ok v) : fit s.length v := by
  unfold parse at h
  split at h
  · cases h
  · split at h
    · cases h
    · rename_i v' i m' hv
      have := value_fit s (s.length + 1) 0 (by omega) 0 0 _ _ _ (by omega) (by omega) hv
      split at h
      · cases h
      · injection h with h; subst h; exact this

theorem escB_length (c : UInt8) : (escB c).length ≤ 6 := by
  unfold escB
  repeat (split; simp)
  simp
theorem esc_length6 (t : Bytes) : (esc t).length ≤ 6 * t.length := by
  induction t with
  | nil => simp [esc]
  | cons c t ih =>
    have := escB_length c
    simp only [esc, List.flatMap_cons, List.length_append, List.length_cons] at *
    omega
theorem jtext_length (t : Bytes) : (jtext t).length ≤ 6 * t.length + 2 := by
  have := esc_length6 t
  simp only [jtext, List.length_cons, List.length_append, List.length_nil]; omega
mutual
theorem pr_length (L : Nat) : ∀ v : J, fit L v → (pr v).length + (6 * L + 4) ≤ (12 * L + 20) * nodes v
  | .mk k is t ns ks, h => by
    unfold fit at h
    have hK := fun o => prK_length L ks o true ns h.2.2.1 h.2.2.2.2
    have ht := jtext_length t
    have e : (12 * L + 20) * nodes (.mk k is t ns ks) = (12 * L + 20) + (12 * L + 20) * nodesK ks := by
      simp only [nodes]; rw [Nat.mul_add]; omega
    rw [e]
    unfold pr
    split
    · simp; omega
    · split
      · split <;> simp <;> omega
      · split
        · omega
        · split
          · omega
          · split
            · have := hK true
              simp only [List.length_cons, List.length_append, List.length_nil]; omega
            · have := hK false
              simp only [List.length_cons, List.length_append, List.length_nil]; omega
theorem prK_length (L : Nat) : ∀ (ks : List J) (o f : Bool) (ns : List Bytes), (∀ n ∈ ns, n.length ≤ L) → fitK L ks → (prK o f ns ks).length ≤ (12 * L + 20) * nodesK ks
  | [], o, f, ns, _, _ => by unfold prK; simp
  | k :: ks, o, f, ns, hn, h => by
    unfold fitK at h
    have h1 := pr_length L k h.1
    have h2 := prK_length L ks o false ns.tail (fun n hm => hn n (List.mem_of_mem_tail hm)) h.2
    have h3 : (jtext (ns.headD [])).length ≤ 6 * L + 2 := by
      have := jtext_length (ns.headD [])
      cases ns with
      | nil => simp at this ⊢; omega
      | cons a l => have := hn a (by simp); simp at *; omega
    have e : (12 * L + 20) * nodesK (k :: ks) = (12 * L + 20) * nodes k + (12 * L + 20) * nodesK ks := by
      simp only [nodesK]; rw [Nat.mul_add]
    rw [e]
    unfold prK
    simp only [List.length_append]
    have h4 : (if f = true then ([] : Bytes) else [44]).length ≤ 1 := by split <;> simp
    have h5 : (if o = true then jtext (ns.headD []) ++ [58] else []).length ≤ 6 * L + 3 := by
      split
      · rw [List.length_append, List.length_singleton]; omega
      · simp
    omega
end
end Cx
namespace Cx

/-- The value behind a name, of an object. -/
def get : J → Bytes → Option J
  | .mk k _ _ ns ks, n => if k = 6 ∧ n ∈ ns then ks[ns.idxOf n]? else none

mutual
theorem right_mono : ∀ (v : J) (d : Nat), right (d + 1) v = true → right d v = true
  | .mk k is t ns ks, d, h => by
    unfold right at h ⊢
    by_cases h1 : k = 1
    · rw [if_pos h1] at h ⊢; exact h
    rw [if_neg h1] at h ⊢
    by_cases h2 : k = 2
    · rw [if_pos h2] at h ⊢; exact h
    rw [if_neg h2] at h ⊢
    by_cases h3 : k = 3
    · rw [if_pos h3] at h ⊢; exact h
    rw [if_neg h3] at h ⊢
    by_cases h4 : k = 4
    · rw [if_pos h4] at h ⊢; exact h
    rw [if_neg h4] at h ⊢
    by_cases h5 : k = 5
    · rw [if_pos h5] at h ⊢
      simp only [Bool.and_eq_true, decide_eq_true_eq] at h ⊢
      exact ⟨⟨h.1.1, by omega⟩, rightK_mono ks (d + 1) h.2⟩
    rw [if_neg h5] at h ⊢
    by_cases h6 : k = 6
    · rw [if_pos h6] at h ⊢
      simp only [Bool.and_eq_true, decide_eq_true_eq] at h ⊢
      exact ⟨⟨h.1.1, by omega⟩, rightK_mono ks (d + 1) h.2⟩
    rw [if_neg h6] at h
    cases h
theorem rightK_mono : ∀ (ks : List J) (d : Nat), rightK (d + 1) ks = true → rightK d ks = true
  | [], d, _ => by unfold rightK; rfl
  | k :: ks, d, h => by
    unfold rightK at h ⊢
    simp only [Bool.and_eq_true] at h ⊢
    exact ⟨right_mono k d h.1, rightK_mono ks d h.2⟩
end

def list2 (a b : J) : J := .mk 5 false [] [] [a, b]
def obj2 (n m : Bytes) (a b : J) : J := .mk 6 false [] [n, m] [a, b]
theorem list2_wrong {a b : J} (h : right 0 a = false ∨ right 0 b = false) : print (list2 a b) = [] := by
  unfold print
  rw [if_neg]
  intro hr
  unfold Right list2 right at hr
  simp [rightK] at hr
  have := hr.2
  rcases h with h | h
  · rw [right_mono a 0 this.1] at h; cases h
  · rw [right_mono b 0 this.2] at h; cases h
theorem obj2_wrong {n m : Bytes} {a b : J} (h : right 0 a = false ∨ right 0 b = false) : print (obj2 n m a b) = [] := by
  unfold print
  rw [if_neg]
  intro hr
  unfold Right obj2 right at hr
  simp [rightK] at hr
  have := hr.2.2
  rcases h with h | h
  · rw [right_mono a 0 this.1] at h; cases h
  · rw [right_mono b 0 this.2] at h; cases h
theorem right_of_light {a : J} (hn : nodes a ≤ 2000) : Right a = right 0 a := by
  unfold Right
  rw [decide_eq_true (by omega), Bool.true_and]
theorem print_nil_iff (v : J) : print v = [] ↔ Right v = false := by
  have := @print_ne v
  constructor
  · intro h
    cases hr : Right v with
    | false => rfl
    | true => exact absurd h (this.2 hr)
  · intro h
    unfold print; rw [h]; rfl
theorem print_list2 {a b : J} (h : Right (list2 a b) = true) : print (list2 a b) = 91 :: (pr a ++ 44 :: (pr b ++ [93])) := by
  unfold print
  rw [h]
  simp [list2, pr, prK]
theorem print_obj2 {n m : Bytes} {a b : J} (h : Right (obj2 n m a b) = true) : print (obj2 n m a b) = 123 :: (jtext n ++ 58 :: (pr a ++ 44 :: (jtext m ++ 58 :: (pr b ++ [125])))) := by
  unfold print
  rw [h]
  simp [obj2, pr, prK]
theorem get_first (n m : Bytes) (a b : J) : get (obj2 n m a b) n = some a := by
  simp [get, obj2]
theorem get_second {n m : Bytes} (h : n ≠ m) (a b : J) : get (obj2 n m a b) m = some b := by
  have h' : (n == m) = false := by simpa using h
  simp [get, obj2, List.idxOf_cons, h']
theorem get_list (n : Bytes) (a b : J) : get (list2 a b) n = none := by simp [get, list2]
theorem get_none {n m x : Bytes} (h1 : x ≠ n) (h2 : x ≠ m) (a b : J) : get (obj2 n m a b) x = none := by
  simp [get, obj2, h1, h2]
end Cx
namespace Cx

/-- What digits say. -/
def digVal (l : Bytes) : Nat := l.foldl (fun n c => 10 * n + (c.toNat - 48)) 0
/-- Without a minus ahead. -/
def unsign (t : Bytes) : Bytes := match t with | 45 :: r => r | t => t
/-- The int that a number is, if it has at most fifteen digits and nothing else. -/
def toIntT (t : Bytes) : Option Int :=
  if unsign t ≠ [] ∧ (unsign t).length ≤ 15 ∧ (unsign t).all isDig = true
  then some (if t.head? = some 45 then -(digVal (unsign t) : Int) else (digVal (unsign t) : Int)) else none
def toInt : J → Option Int
  | .mk k _ t _ _ => if k = 3 then toIntT t else none

/-- A number in decimal digits. -/
def dec (n : Nat) : Bytes := if h : n < 10 then [UInt8.ofNat (48 + n)] else dec (n / 10) ++ [UInt8.ofNat (48 + n % 10)]
termination_by n
decreasing_by omega
def decI (n : Int) : Bytes := if n < 0 then 45 :: dec n.natAbs else dec n.natAbs

theorem dec_small {n : Nat} (h : n < 10) : dec n = [UInt8.ofNat (48 + n)] := by unfold dec; rw [dif_pos h]
theorem dec_big {n : Nat} (h : ¬ n < 10) : dec n = dec (n / 10) ++ dec (n % 10) := by
  conv => lhs; unfold dec
  rw [dif_neg h, dec_small (n := n % 10) (by omega)]
theorem isDig_of {n : Nat} (h : n < 10) : isDig (UInt8.ofNat (48 + n)) = true := by
  have : ∀ n : Fin 10, isDig (UInt8.ofNat (48 + n.val)) = true := by decide
  exact this ⟨n, h⟩
theorem toNat_of {n : Nat} (h : n < 10) : (UInt8.ofNat (48 + n)).toNat = 48 + n := by
  have : ∀ n : Fin 10, (UInt8.ofNat (48 + n.val)).toNat = 48 + n.val := by decide
  exact this ⟨n, h⟩
theorem dec_dig (n : Nat) : ∀ c ∈ dec n, isDig c = true := by
  unfold dec
  split
  · rename_i h
    intro c hc
    simp only [List.mem_singleton] at hc
    subst hc; exact isDig_of h
  · rename_i h
    intro c hc
    rcases List.mem_append.1 hc with hc | hc
    · exact dec_dig (n / 10) c hc
    · simp only [List.mem_singleton] at hc
      subst hc; exact isDig_of (by omega)
termination_by n
decreasing_by omega
theorem dec_ne (n : Nat) : dec n ≠ [] := by
  unfold dec; split <;> simp
theorem digVal_snoc (l : Bytes) (c : UInt8) : digVal (l ++ [c]) = 10 * digVal l + (c.toNat - 48) := by
  unfold digVal; rw [List.foldl_append]; rfl
theorem dec_val (n : Nat) : digVal (dec n) = n := by
  unfold dec
  split
  · rename_i h
    unfold digVal
    simp only [List.foldl]
    rw [toNat_of h]; omega
  · rename_i h
    rw [digVal_snoc, dec_val (n / 10), toNat_of (by omega)]; omega
termination_by n
decreasing_by omega
theorem dec_length : ∀ (k n : Nat), n < 10 ^ (k + 1) → (dec n).length ≤ k + 1
  | 0, n, h => by rw [dec_small (by simpa using h)]; simp
  | k + 1, n, h => by
    by_cases h1 : n < 10
    · rw [dec_small h1]; simp
    · rw [dec_big h1, List.length_append, dec_small (n := n % 10) (by omega)]
      have := dec_length k (n / 10) (by rw [Nat.pow_succ] at h; omega)
      simp; omega
/-- Its first digit is no 0, but for 0. -/
theorem dec_head (n : Nat) : (dec n).length = 1 ∨ (dec n).head? ≠ some 48 := by
  unfold dec
  split
  · left; rfl
  · rename_i h
    right
    have h1 := dec_ne (n / 10)
    rw [show (dec (n / 10) ++ [UInt8.ofNat (48 + n % 10)]).head? = (dec (n / 10)).head? from by cases hx : dec (n / 10) with | nil => exact absurd hx h1 | cons c l => rfl]
    rcases dec_head (n / 10) with g | g
    · by_cases h2 : n / 10 < 10
      · rw [dec_small h2]
        simp only [List.head?_cons]
        intro e
        injection e with e
        have := congrArg UInt8.toNat e
        rw [toNat_of h2] at this
        simp at this; omega
      · have h3 := dec_big h2
        have h4 : 0 < (dec (n / 10 / 10)).length := List.length_pos_iff.2 (dec_ne _)
        have h5 : 0 < (dec (n / 10 % 10)).length := List.length_pos_iff.2 (dec_ne _)
        rw [h3, List.length_append] at g; omega
    · exact g
termination_by n
decreasing_by omega

theorem skipD_over {s ds r : Bytes} {i : Nat} (h : s.drop i = ds ++ r) (hd : ∀ c ∈ ds, isDig c = true) (hr : isDig (r.headD 0) = false) : skipD s i = i + ds.length := by
  unfold skipD
  rw [h, List.takeWhile_append_of_pos hd]
  cases r with
  | nil => simp
  | cons c r => simp [show isDig c = false from hr]
theorem dig_not {c : UInt8} (h : isDig c = true) : c ≠ 45 ∧ c ≠ 46 ∧ c ≠ 101 ∧ c ≠ 69 ∧ c ≠ 43 := by
  refine ⟨?_, ?_, ?_, ?_, ?_⟩ <;> (rintro rfl; revert h; decide)

theorem numInt_dec {s r : Bytes} {i n : Nat} (h : s.drop i = dec n ++ r) (hr : isDig (r.headD 0) = false) : numInt s i = .ok (i + (dec n).length) := by
  have hd := dec_dig n
  unfold numInt
  cases hx : dec n with
  | nil => exact absurd hx (dec_ne n)
  | cons c l =>
    have hp : peek s i = c := peek_drop (r := l ++ r) (by rw [h, hx]; rfl)
    by_cases h48 : c = 48
    · have hl : (dec n).length = 1 := by
        rcases dec_head n with g | g
        · exact g
        · rw [hx] at g; exact absurd (by rw [h48]; rfl) g
      rw [hx] at hl
      have ho : opt s [48] i = i + 1 := by unfold opt; rw [hp, if_pos (by simp [h48])]
      rw [if_neg (by omega), hl]
    · have ho : opt s [48] i = i := by unfold opt; rw [hp, if_neg (by simpa using h48)]
      rw [if_pos ho]
      have hk := skipD_over h hd hr
      unfold digits
      rw [hk, hx, if_neg (by simp)]

/-- A number: its sign, its digits, and nothing or an exponent 0. -/
theorem isNum_dec (n : Nat) (neg : Bool) (ex : Bool) (hn : n < 10 ^ 15) : isNum ((if neg then [45] else []) ++ (dec n ++ (if ex then [101, 48] else []))) := by
  have hlen := dec_length 14 n hn
  have hd := dec_dig n
  obtain ⟨r, hr⟩ : ∃ r : Bytes, r = if ex then [101, 48] else [] := ⟨_, rfl⟩
  rw [← hr]
  have hr0 : isDig (r.headD 0) = false := by cases ex <;> simp [hr] <;> decide
  obtain ⟨s, hs⟩ : ∃ s : Bytes, s = (if neg then [45] else []) ++ (dec n ++ r) := ⟨_, rfl⟩
  rw [← hs]
  obtain ⟨a, ha⟩ : ∃ a : Nat, a = if neg then 1 else 0 := ⟨_, rfl⟩
  have hdrop : s.drop a = dec n ++ r := by cases neg <;> simp [ha, hs]
  have hopt : opt s [45] 0 = a := by
    unfold opt
    cases neg
    · cases hx : dec n with
      | nil => exact absurd hx (dec_ne n)
      | cons c l =>
        have hp : peek s 0 = c := peek_drop (r := l ++ r) (by rw [hs, hx]; rfl)
        have := dig_not (hd c (by rw [hx]; simp))
        rw [hp, if_neg (by simpa using this.1), ha]; rfl
    · have hp : peek s 0 = 45 := peek_drop (r := dec n ++ r) (by rw [hs]; rfl)
      rw [hp, if_pos (by simp), ha]; rfl
  have hsl : s.length = a + (dec n).length + r.length := by cases neg <;> simp [ha, hs] <;> omega
  have hrl : r.length ≤ 2 := by cases ex <;> simp [hr]
  have hb : s.drop (a + (dec n).length) = r := drop_add hdrop
  unfold isNum number
  rw [hopt, numInt_dec hdrop hr0]
  simp only
  have hfr : numFrac s (a + (dec n).length) = .ok (a + (dec n).length) := by
    unfold numFrac opt
    cases ex
    · rw [peek_end (by rw [hsl, hr]; simp)]; simp
    · rw [peek_drop (c := 101) (r := [48]) (by rw [hb, hr]; rfl)]; simp
  rw [hfr]
  simp only
  have hex : numExp s (a + (dec n).length) = .ok s.length := by
    unfold numExp
    cases ex
    · have ho : opt s [101, 69] (a + (dec n).length) = a + (dec n).length := by
        unfold opt; rw [peek_end (by rw [hsl, hr]; simp)]; simp
      rw [if_pos ho, hsl, hr]; simp
    · have hb' : s.drop (a + (dec n).length) = 101 :: [48] := by rw [hb, hr]; rfl
      have ho : opt s [101, 69] (a + (dec n).length) = a + (dec n).length + 1 := by
        unfold opt; rw [peek_drop hb']; simp
      have hb2 := drop_succ hb'
      have ho2 : opt s [43, 45] (a + (dec n).length + 1) = a + (dec n).length + 1 := by
        unfold opt; rw [peek_drop hb2]; simp
      rw [if_neg (by omega), ho2]
      unfold digits
      rw [skipD_over (ds := [48]) (r := []) hb2 (by intro c hc; simp at hc; subst hc; decide) (by decide)]
      rw [if_neg (by simp), hsl, hr]; simp
  rw [hex]
  simp only
  rw [if_neg]
  have : a ≤ 1 := by cases neg <;> simp [ha]
  omega

theorem decI_eq (n : Int) : decI n = (if decide (n < 0) then [45] else []) ++ dec n.natAbs := by
  unfold decI; by_cases h : n < 0 <;> simp [h]
theorem isNum_decI {n : Int} (h : -999999999999999 ≤ n) (h' : n ≤ 999999999999999) : isNum (decI n) := by
  have := isNum_dec n.natAbs (decide (n < 0)) false (by omega)
  rw [decI_eq]; simpa using this
theorem isNum_decI_e {n : Int} (h : -999999999999999 ≤ n) (h' : n ≤ 999999999999999) : isNum (decI n ++ [101, 48]) := by
  have := isNum_dec n.natAbs (decide (n < 0)) true (by omega)
  rw [decI_eq, List.append_assoc]; simpa using this
theorem parse_num {t : Bytes} (h : isNum t) : parse t = .ok (.mk 3 false t [] []) ∧ print (.mk 3 false t [] []) = t := by
  have hl := isNum_len h
  have hr : Right (.mk 3 false t [] []) = true := by
    unfold Right right
    simp [nodes, nodesK, h]
  have hp : pr (.mk 3 false t [] []) = t := by unfold pr; simp
  refine ⟨?_, ?_⟩
  · have := parse_pr hr (by rw [hp]; omega)
    rw [hp] at this; exact this
  · unfold print; rw [if_pos hr, hp]
theorem unsign_dig {l : Bytes} (h : ∀ c ∈ l, isDig c = true) : unsign l = l := by
  unfold unsign
  split
  · rename_i r
    have := h 45 (by simp)
    exact absurd this (by decide)
  · rfl
theorem toInt_decI {n : Int} (h : -999999999999999 ≤ n) (h' : n ≤ 999999999999999) : toInt (.mk 3 false (decI n) [] []) = some n := by
  have hd := dec_dig n.natAbs
  have hl := dec_length 14 n.natAbs (by omega)
  have hv := dec_val n.natAbs
  have hne := dec_ne n.natAbs
  show (if (3 : Int) = 3 then toIntT (decI n) else none) = some n
  rw [if_pos rfl]
  unfold toIntT
  have hu : unsign (decI n) = dec n.natAbs := by
    unfold decI
    split
    · rfl
    · exact unsign_dig hd
  rw [hu, if_pos ⟨hne, hl, by rw [List.all_eq_true]; exact hd⟩, hv]
  by_cases hn : n < 0
  · have : (decI n).head? = some 45 := by unfold decI; rw [if_pos hn]; rfl
    rw [if_pos this]
    congr 1; omega
  · have : (decI n).head? ≠ some 45 := by
      unfold decI; rw [if_neg hn]
      intro e
      exact absurd (hd 45 (List.mem_of_mem_head? (by rw [e]; rfl))) (by decide)
    rw [if_neg this]
    congr 1; omega
theorem toInt_e {t : Bytes} : toInt (.mk 3 false (t ++ [101, 48]) [] []) = none := by
  show (if (3 : Int) = 3 then toIntT (t ++ [101, 48]) else none) = none
  rw [if_pos rfl]
  unfold toIntT
  rw [if_neg]
  rintro ⟨_, _, h⟩
  rw [List.all_eq_true] at h
  have hm : (101 : UInt8) ∈ unsign (t ++ [101, 48]) := by
    unfold unsign
    split
    · rename_i r he
      cases t with
      | nil => simp at he
      | cons c t =>
        simp only [List.cons_append, List.cons.injEq] at he
        rw [← he.2]; simp
    · simp
  exact absurd (h _ hm) (by decide)
theorem decI_length {n : Int} (h : -999999999999999 ≤ n) (h' : n ≤ 999999999999999) : (decI n).length ≤ 16 := by
  have hl := dec_length 14 n.natAbs (by omega)
  unfold decI; split <;> simp <;> omega
end Cx
namespace Cx

theorem escB_head {c : UInt8} (h : c < 128) : ∃ x r, escB c = x :: r ∧ x < 128 := by
  unfold escB
  repeat (split; exact ⟨_, _, rfl, by decide⟩)
  exact ⟨_, _, rfl, h⟩

/-- The high bytes that a written text begins with are the text's own. -/
theorem high_take : ∀ (k : Nat) (t r : Bytes), (∀ c ∈ (esc t ++ 34 :: r).take k, 128 ≤ c) → k ≤ (esc t ++ 34 :: r).length → k ≤ t.length ∧ (esc t ++ 34 :: r).take k = t.take k
  | 0, t, r, _, _ => by simp
  | k + 1, [], r, h, _ => by
    have := h 34 (by simp [esc])
    exact absurd this (by decide)
  | k + 1, a :: t, r, h, hl => by
    have e : esc (a :: t) = escB a ++ esc t := rfl
    rw [e, List.append_assoc] at h hl ⊢
    by_cases ha : a < 128
    · obtain ⟨x, q, hx, hx2⟩ := escB_head ha
      rw [hx] at h
      have := h x (by simp)
      exact absurd hx2 (UInt8.not_lt.mpr this)
    · have ha' : (128 : UInt8) ≤ a := UInt8.not_lt.mp ha
      rw [escB_high ha'] at h hl ⊢
      simp only [List.singleton_append, List.take_succ_cons, List.length_cons] at h hl ⊢
      have := high_take k t r (fun c hc => h c (by simp [hc])) (by omega)
      exact ⟨by omega, by rw [this.2]⟩

theorem runeLen_bad {t r : Bytes} (h0 : runeLen t = 0) (hne : t ≠ []) (h1 : ∀ c, t.head? = some c → ¬ c < 128) : runeLen (esc t ++ 34 :: r) = 0 := by
  cases t with
  | nil => exact absurd rfl hne
  | cons a l =>
    have ha : ¬ a < 128 := h1 a rfl
    have ha' : (128 : UInt8) ≤ a := UInt8.not_lt.mp ha
    have e : esc (a :: l) ++ 34 :: r = a :: (esc l ++ 34 :: r) := by
      show (escB a ++ esc l) ++ _ = _
      rw [escB_high ha']; rfl
    by_cases hz : runeLen (esc (a :: l) ++ 34 :: r) = 0
    · exact hz
    · exfalso
      have hh := runeLen_high _ hz (fun c hc => by rw [e] at hc; cases hc; exact ha)
      have hle := (runeLen_le (esc (a :: l) ++ 34 :: r)).1
      have := high_take _ (a :: l) r hh hle
      have h2 := runeLen_take (esc (a :: l) ++ 34 :: r) ((a :: l).drop (runeLen (esc (a :: l) ++ 34 :: r))) hz
      rw [this.2, List.take_append_drop] at h2
      rw [h0] at h2
      exact hz h2.symm

/-- A text that is not valid, written, is refused as none. -/
theorem textN_bad (s : Bytes) : ∀ (L : Nat) (t : Bytes), t.length ≤ L → valid t = false → ∀ (n i : Nat) (acc r : Bytes), s.length < i + n → s.drop i = esc t ++ 34 :: r → ∃ p, textN s n i acc = .error (17, p)
  | L, [], _, hv, _, _, _, _, _, _ => by rw [valid_nil] at hv; cases hv
  | 0, a :: l, hl, _, _, _, _, _, _, _ => by simp at hl
  | L + 1, a :: l, hl, hv, n, i, acc, r, hn, h => by
    have hlt : i < s.length := by
      rcases Nat.lt_or_ge i s.length with g | g
      · exact g
      · rw [List.drop_of_length_le g] at h
        have := congrArg List.length h
        simp at this
    rw [valid_cons (by simp)] at hv
    cases n with
    | zero => omega
    | succ n =>
      by_cases ha : a < 128
      · have hr1 : runeLen (a :: l) = 1 := by simp [runeLen, runeLenC, ha]
        rw [hr1] at hv
        have hv' : valid l = false := by simpa using hv
        have hd : s.drop i = escB a ++ (esc l ++ 34 :: r) := by rw [h]; show (escB a ++ esc l) ++ _ = _; simp
        have hd2 := drop_add hd
        have hp := escB_pos a
        rw [textN_byte ha hd]
        exact textN_bad s L l (by simp at hl; omega) hv' n _ _ r (by omega) hd2
      · have ha' : (128 : UInt8) ≤ a := UInt8.not_lt.mp ha
        have ne : ∀ k : UInt8, k.toNat < 128 → ¬ a = k := fun k hk e => by
          subst e; rw [UInt8.le_iff_toNat_le] at ha'; simp at ha'; omega
        have hpk : peek s i = a := by
          have e : esc (a :: l) ++ 34 :: r = a :: (esc l ++ 34 :: r) := by
            show (escB a ++ esc l) ++ _ = _
            rw [escB_high ha']; rfl
          rw [e] at h
          exact peek_drop h
        rw [textN_succ]
        rw [hpk, if_neg (by rw [UInt8.lt_iff_toNat_lt]; rw [UInt8.le_iff_toNat_le] at ha'; simp at ha' ⊢; omega), if_neg (ne _ (by decide)), if_neg (ne _ (by decide))]
        by_cases hz : runeLen (a :: l) = 0
        · have := runeLen_bad (r := r) hz (by simp) (fun c hc => by cases hc; exact ha)
          rw [h, if_pos this]
          exact ⟨_, rfl⟩
        · have hk := runeLen_le (a :: l)
          have hhigh := runeLen_high (a :: l) hz (fun c hc => by cases hc; exact ha)
          have hsplit : a :: l = (a :: l).take (runeLen (a :: l)) ++ (a :: l).drop (runeLen (a :: l)) := (List.take_append_drop _ _).symm
          have he : esc (a :: l) = (a :: l).take (runeLen (a :: l)) ++ esc ((a :: l).drop (runeLen (a :: l))) := by
            conv => lhs; rw [hsplit]
            rw [esc_append, esc_high _ hhigh]
          have hd : s.drop i = (a :: l).take (runeLen (a :: l)) ++ (esc ((a :: l).drop (runeLen (a :: l))) ++ 34 :: r) := by rw [h, he]; simp
          have hrl : runeLen (s.drop i) = runeLen (a :: l) := by rw [hd]; exact runeLen_take _ _ hz
          have htl : ((a :: l).take (runeLen (a :: l))).length = runeLen (a :: l) := by rw [List.length_take]; omega
          have hd2 := drop_add hd
          rw [htl] at hd2
          rw [hrl, if_neg hz]
          have hv' : valid ((a :: l).drop (runeLen (a :: l))) = false := by simpa [hz] using hv
          exact textN_bad s L _ (by rw [List.length_drop]; simp only [List.length_cons] at *; omega) hv' n _ _ r (by omega) hd2

theorem parse_text_bad {t : Bytes} (hv : valid t = false) (hl : (jtext t).length ≤ 100000) : ∃ p, parse (jtext t) = .error (17, p) := by
  have hd : (jtext t).drop 0 = 34 :: (esc t ++ 34 :: []) := by simp [jtext]
  have hs : skipB (jtext t) 0 = 0 := skipB_stop (by rw [peek_drop hd]; decide)
  have hp : peek (jtext t) 0 = 34 := peek_drop hd
  have hlen : (jtext t).length = (esc t).length + 2 := by simp [jtext]
  obtain ⟨p, he⟩ := textN_bad (jtext t) t.length t (Nat.le_refl _) hv ((jtext t).length - 0) (0 + 1) [] [] (by omega) (drop_succ hd)
  refine ⟨p, ?_⟩
  unfold parse
  rw [if_neg (by omega)]
  have : value (jtext t) ((jtext t).length + 1) 0 0 0 = .error (17, p) := by
    unfold value
    simp only [hs, hp]
    rw [if_neg (by decide), if_neg (by decide), if_neg (by decide), if_neg (by decide), if_neg (by decide), if_pos trivial]
    have ht : text (jtext t) 0 = .error (17, p) := by
      unfold text
      rw [if_pos hp]; exact he
    rw [ht]
  rw [this]

theorem escB_printable (c : UInt8) : ∀ x ∈ escB c, 32 ≤ x := by
  have low : ∀ n : UInt8, 32 ≤ lowHex n ∨ 16 ≤ n := by
    intro n
    unfold lowHex
    by_cases h : n < 10
    · rw [if_pos h]; left
      rw [UInt8.lt_iff_toNat_lt] at h
      rw [UInt8.le_iff_toNat_le, UInt8.toNat_add]
      simp at h ⊢; omega
    · rw [if_neg h]
      by_cases h2 : 16 ≤ n
      · exact .inr h2
      · left
        rw [UInt8.lt_iff_toNat_lt] at h
        rw [UInt8.le_iff_toNat_le] at h2
        rw [UInt8.le_iff_toNat_le, UInt8.toNat_add]
        simp at h h2 ⊢; omega
  unfold escB
  repeat (split; (intro x hx; simp only [List.mem_cons, List.not_mem_nil, or_false] at hx; rcases hx with rfl | rfl <;> decide))
  split
  · rename_i h
    intro x hx
    have hc : c.toNat < 32 := by rw [UInt8.lt_iff_toNat_lt] at h; exact h
    have h1 : c >>> 4 < 16 := by
      rw [UInt8.lt_iff_toNat_lt, UInt8.toNat_shiftRight]
      simp [Nat.shiftRight_eq_div_pow]; omega
    have h2 : c &&& 15 < 16 := by
      rw [UInt8.lt_iff_toNat_lt, UInt8.toNat_and]
      have : c.toNat &&& (15 : UInt8).toNat ≤ (15 : UInt8).toNat := Nat.and_le_right
      simp at this ⊢; omega
    simp only [List.mem_cons, List.not_mem_nil, or_false] at hx
    rcases hx with rfl | rfl | rfl | rfl | rfl | rfl
    · decide
    · decide
    · decide
    · decide
    · rcases low (c >>> 4) with h | h
      · exact h
      · exact absurd h1 (UInt8.not_lt.mpr h)
    · rcases low (c &&& 15) with h | h
      · exact h
      · exact absurd h2 (UInt8.not_lt.mpr h)
  · rename_i h
    intro x hx
    simp only [List.mem_cons, List.not_mem_nil, or_false] at hx
    subst hx
    exact UInt8.not_lt.mp h
theorem jtext_printable (t : Bytes) : ∀ x ∈ jtext t, 32 ≤ x := by
  intro x hx
  simp only [jtext, List.mem_cons, List.mem_append, List.not_mem_nil, or_false] at hx
  rcases hx with rfl | hx | rfl
  · decide
  · simp only [esc, List.mem_flatMap] at hx
    obtain ⟨c, _, hc⟩ := hx
    exact escB_printable c x hc
  · decide

/-- The law on texts, of the model: what is read of a written text. -/
theorem parse_text (t : Bytes) (hl : (jtext t).length ≤ 100000) : parse (jtext t) = .ok (.mk 4 false t [] []) ∨ ∃ p, parse (jtext t) = .error (17, p) := by
  cases hv : valid t with
  | false => exact .inr (parse_text_bad hv hl)
  | true =>
    left
    have hr : Right (.mk 4 false t [] []) = true := by simp [Right, right, nodes, nodesK, hv]
    have hp : pr (.mk 4 false t [] []) = jtext t := by simp [pr]
    have := parse_pr hr (by rw [hp]; exact hl)
    rw [hp] at this
    exact this
end Cx
namespace Cx

def kLen : List J → Nat
  | [] => 0
  | k :: ks => (pr k).length + 1 + kLen ks
def nLen : List Bytes → Nat
  | [] => 0
  | n :: ns => (jtext n).length + 1 + nLen ns
theorem kLen_snoc (k : J) : ∀ ks : List J, kLen (ks ++ [k]) = kLen ks + ((pr k).length + 1)
  | [] => by simp [kLen]
  | a :: ks => by
    have := kLen_snoc k ks
    show kLen (a :: (ks ++ [k])) = _
    simp only [kLen, this]; omega
theorem nLen_snoc (n : Bytes) : ∀ ns : List Bytes, nLen (ns ++ [n]) = nLen ns + ((jtext n).length + 1)
  | [] => by simp [nLen]
  | a :: ns => by
    have := nLen_snoc n ns
    show nLen (a :: (ns ++ [n])) = _
    simp only [nLen, this]; omega
theorem prK_len : ∀ (ks : List J) (o f : Bool) (ns : List Bytes), (o = true → ns.length = ks.length) → (prK o f ns ks).length ≤ kLen ks + nLen ns
  | [], o, f, ns, _ => by unfold prK; simp
  | k :: ks, o, f, ns, h => by
    unfold prK
    simp only [List.length_append, kLen]
    have h4 : (if f = true then ([] : Bytes) else [44]).length ≤ 1 := by split <;> simp
    cases o with
    | false =>
      have := prK_len ks false false ns.tail (fun h => by cases h)
      have h5 : nLen ns.tail ≤ nLen ns := by
        cases ns with
        | nil => simp
        | cons a l => simp only [List.tail_cons, nLen]; omega
      simp only [Bool.false_eq_true, if_false, List.length_nil]
      omega
    | true =>
      have hl := h rfl
      cases ns with
      | nil => simp at hl
      | cons a l =>
        have := prK_len ks true false l (fun _ => by simpa using hl)
        simp only [if_true, List.headD_cons, List.tail_cons, nLen, List.length_append, List.length_singleton]
        omega

theorem name_len {s t : Bytes} {l : List Bytes} {i j : Nat} (h : name s l i = .ok (t, j)) : (jtext t).length + 1 + 6 * i ≤ 6 * j := by
  have hb := skipB_le (s := s) (i := i)
  unfold name at h
  split at h
  · cases h
  · rename_i t' k ht
    split at h
    · cases h
    · split at h
      · cases h
      · rename_i k' hw
        injection h with h; injection h with h1 h2; subst h1; subst h2
        have h3 := text_length1 ht
        have h4 := jtext_length t'
        have h5 := skipB_le (s := s) (i := k)
        have h6 := (word_ok (by decide) (skipB_len (text_ok ht).2.1) hw).1
        simp only [List.length_singleton] at h6
        omega
where
  text_length1 {s b : Bytes} {i j : Nat} (h : text s i = .ok (b, j)) : b.length + (i + 1) ≤ j := by
    unfold text at h
    split at h
    · have := textN_length s _ _ _ _ _ h
      simpa using this
    · cases h

/-- A reader of values that are written in at most six times as many bytes as were read. -/
def Lens (s : Bytes) (val : Nat → Nat → Res (J × Nat × Nat)) : Prop :=
  ∀ i m v j m', i ≤ s.length → m ≤ 5000 → val i m = .ok (v, j, m') → (pr v).length + 6 * i ≤ 6 * j

theorem parts_len {s : Bytes} {d : Nat} {val : Nat → Nat → Res (J × Nat × Nat)} (hv : Fine s (d + 1) val) (hf : Lens s val) (obj : Bool) :
    ∀ (n i m : Nat) (ns : List Bytes) (ks : List J), i ≤ s.length → m ≤ 5000 → (obj = true → ns.length = ks.length) → (obj = false → ns = []) →
      ∀ v j m', parts val s obj n i m ns ks = .ok (v, j, m') → (pr v).length + 6 * i ≤ kLen ks + nLen ns + 6 * j
  | 0, i, m, ns, ks, _, _, _, _, v, j, m', h => by unfold parts at h; cases h
  | n + 1, i, m, ns, ks, hi, hm, ho, hl, v, j, m', h => by
    unfold parts at h
    cases h1 : (if obj = true then name s ns i else Except.ok ([], i)) with
    | error e => rw [h1] at h; cases h
    | ok a =>
      obtain ⟨t, i1⟩ := a
      rw [h1] at h
      simp only at h
      have hi1 : i ≤ i1 ∧ i1 ≤ s.length ∧ (obj = true → (jtext t).length + 1 + 6 * i ≤ 6 * i1) := by
        cases obj with
        | true => have h2 := name_ok h1; have h3 := name_len h1; exact ⟨by omega, h2.2.1, fun _ => h3⟩
        | false => injection h1 with h1; injection h1 with h0 h1; subst h1; exact ⟨Nat.le_refl _, hi, fun h => by cases h⟩
      cases h2 : val i1 m with
      | error e => rw [h2] at h; cases h
      | ok b =>
        obtain ⟨k, i2, m2⟩ := b
        rw [h2] at h
        simp only at h
        have hkl := hf _ _ _ _ _ hi1.2.1 hm h2
        have hko := hv.ok _ _ _ _ _ hi1.2.1 hm h2
        have hsb := skipB_le (s := s) (i := i2)
        have hsl := skipB_len hko.2.1
        have ho' : obj = true → (if obj = true then ns ++ [t] else ns).length = (ks ++ [k]).length := by
          intro he; have := ho he; subst he; simp [this]
        have hl' : obj = false → (if obj = true then ns ++ [t] else ns) = [] := by
          intro he; have := hl he; subst he; simpa using this
        have hnl : nLen (if obj = true then ns ++ [t] else ns) + 6 * i ≤ nLen ns + 6 * i1 := by
          cases obj with
          | true => simp only [if_true, nLen_snoc]; have := hi1.2.2 rfl; omega
          | false => simp only [Bool.false_eq_true, if_false]; omega
        have hks := kLen_snoc k ks
        split at h
        · rename_i hc
          have hlt := peek_lt (s := s) (i := skipB s i2) (by rw [hc]; decide)
          have := parts_len hv hf obj n (skipB s i2 + 1) m2 _ _ (by omega) hko.2.2.2.1 ho' hl' v j m' h
          omega
        · cases h3 : word s [if obj = true then 125 else 93] (skipB s i2) with
          | error e => rw [h3] at h; cases h
          | ok j' =>
            rw [h3] at h
            simp only at h
            have hw := word_ok (by cases obj <;> decide) hsl h3
            injection h with h; injection h with e1 h; injection h with e2 e3
            subst e1; subst e2
            simp only [List.length_singleton] at hw
            have hpk := prK_len (ks ++ [k]) obj true _ ho'
            have hpr : (pr (.mk (if obj = true then 6 else 5) false [] (if obj = true then ns ++ [t] else ns) (ks ++ [k]))).length = (prK obj true (if obj = true then ns ++ [t] else ns) (ks ++ [k])).length + 2 := by
              cases obj <;> (unfold pr; simp)
            rw [hpr]
            omega

theorem wordv_len {s w : Bytes} {i p m : Nat} {v v' : J} {j m' : Nat} (hi : i ≤ p) (hp : p ≤ s.length) (h0 : (0 : UInt8) ∉ w) (hv : (pr v).length ≤ w.length) (h : (match word s w p with | .error e => .error e | .ok k => .ok (v, k, m) : Res (J × Nat × Nat)) = .ok (v', j, m')) : (pr v').length + 6 * i ≤ 6 * j := by
  cases hw : word s w p with
  | error e => rw [hw] at h; cases h
  | ok k =>
    rw [hw] at h; injection h with h; injection h with e1 h; injection h with e2 e3
    subst e1; subst e2
    have := (word_ok h0 hp hw).1
    omega
theorem value_len (s : Bytes) : ∀ (n d : Nat), d ≤ 20 → Lens s (fun i m => value s n d i m)
  | 0, d, _ => fun _ _ _ _ _ _ _ h => by simp only [value] at h; cases h
  | n + 1, d, hd => by
    intro i m v j m' hi hm h
    have hle := skipB_le (s := s) (i := i)
    have hlen := skipB_len hi
    simp only [value] at h
    generalize skipB s i = p at *
    split at h
    · cases h
    · rename_i hst
      have hst : starts (peek s p) = true := by simpa using hst
      have hplt := peek_lt (starts_ne hst).2.2
      split at h
      · cases h
      · split at h
        · exact wordv_len hle hlen (by decide) (by unfold pr; simp) h
        · split at h
          · exact wordv_len hle hlen (by decide) (by unfold pr; simp) h
          · split at h
            · exact wordv_len hle hlen (by decide) (by unfold pr; simp) h
            · split at h
              · cases ht : text s p with
                | error e => rw [ht] at h; cases h
                | ok a =>
                  obtain ⟨t, k⟩ := a
                  rw [ht] at h
                  injection h with h; injection h with e1 h; injection h with e2 e3
                  subst e1; subst e2
                  have h3 := name_len.text_length1 ht
                  have h4 := jtext_length t
                  rw [show pr (.mk 4 false t [] []) = jtext t by unfold pr; simp]
                  omega
              · split at h
                · split at h
                  · cases h
                  · have hf := value_fine s n (d + 1) (by omega)
                    have hft := value_len s n (d + 1) (by omega)
                    have hsb := skipB_le (s := s) (i := p + 1)
                    have hsl := skipB_len (s := s) (i := p + 1) (by omega)
                    unfold group at h
                    by_cases hc : peek s (skipB s (p + 1)) = (if decide (peek s p = 123) = true then 125 else 93)
                    · rw [if_pos hc] at h
                      injection h with h; injection h with e1 h; injection h with e2 e3
                      subst e1; subst e2
                      have : (pr (.mk (if decide (peek s p = 123) = true then 6 else 5) false [] [] [])).length = 2 := by
                        cases decide (peek s p = 123) <;> (unfold pr; simp [prK])
                      rw [this]; omega
                    · rw [if_neg hc] at h
                      have := parts_len hf hft _ _ _ _ _ _ (by omega) (by omega) (by simp) (by simp) _ _ _ h
                      simp only [kLen, nLen] at this
                      omega
                · cases hn : number s p with
                  | error e => rw [hn] at h; cases h
                  | ok k =>
                    rw [hn] at h
                    injection h with h; injection h with e1 h; injection h with e2 e3
                    subst e1; subst e2
                    have := number_ok hn
                    have h3 : (pr (.mk 3 false ((s.drop p).take (k - p)) [] [])).length ≤ k - p := by unfold pr; simp; omega
                    omega
theorem parse_len {s : Bytes} {v : J} (h : parse s = .ok v) : (pr v).length ≤ 6 * s.length := by
  unfold parse at h
  split at h
  · cases h
  · split at h
    · cases h
    · rename_i v' i m' hv
      have := value_len s (s.length + 1) 0 (by omega) 0 0 _ _ _ (by omega) (by omega) hv
      have h2 := (value_fine s (s.length + 1) 0 (by omega)).ok 0 0 _ _ _ (by omega) (by omega) hv
      split at h
      · cases h
      · injection h with h; subst h; omega
end Cx
namespace Cx

def special (c : UInt8) : Bool := c == 44 || c == 58 || c == 91 || c == 93 || c == 123 || c == 125
/-- A blank ahead of and behind each sign that parts, but inside a text. -/
def spread (bl : Bytes) : Bool → Bool → Bytes → Bytes
  | _, _, [] => []
  | inn, esc, c :: r =>
    if (!inn && special c) = true then bl ++ (c :: (bl ++ spread bl inn esc r))
    else c :: spread bl (if (c == 34 && !esc) = true then !inn else inn) ((if (c == 34 && !esc) = true then !inn else inn) && c == 92 && !esc) r

theorem spread_length {bl : Bytes} (h : bl.length ≤ 1) : ∀ (s : Bytes) (i e : Bool), (spread bl i e s).length ≤ 3 * s.length
  | [], _, _ => by simp [spread]
  | c :: r, i, e => by
    unfold spread
    split
    · have := spread_length h r i e
      simp only [List.length_append, List.length_cons]; omega
    · have := spread_length h r (if (c == 34 && !e) = true then !i else i) ((if (c == 34 && !e) = true then !i else i) && c == 92 && !e)
      simp only [List.length_cons]; omega

/-- A byte that neither parts nor opens a text. -/
def quiet (c : UInt8) : Bool := !special c && c != 34
theorem spread_quiet {bl : Bytes} : ∀ (l r : Bytes), (∀ c ∈ l, quiet c = true) → spread bl false false (l ++ r) = l ++ spread bl false false r
  | [], _, _ => rfl
  | c :: l, r, h => by
    have hc := h c (by simp)
    unfold quiet at hc
    simp only [Bool.and_eq_true, Bool.not_eq_true', bne_iff_ne] at hc
    have h34 : (c == 34) = false := by simpa using hc.2
    have ih := spread_quiet (bl := bl) l r fun x hx => h x (by simp [hx])
    show spread bl false false (c :: (l ++ r)) = c :: (l ++ spread bl false false r)
    conv => lhs; unfold spread
    rw [hc.1, h34, ← ih]
    rfl

theorem spread_special {bl : Bytes} {c : UInt8} (h : special c = true) (r : Bytes) : spread bl false false (c :: r) = bl ++ (c :: (bl ++ spread bl false false r)) := by
  conv => lhs; unfold spread
  rw [h]; rfl

theorem spread_in {bl : Bytes} {c : UInt8} {e : Bool} (r : Bytes) (h : (c == 34 && !e) = false) : spread bl true e (c :: r) = c :: spread bl true (c == 92 && !e) r := by
  conv => lhs; unfold spread
  rw [h]
  simp

theorem spread_escB {bl : Bytes} (c : UInt8) (r : Bytes) : spread bl true false (escB c ++ r) = escB c ++ spread bl true false r := by
  have two : ∀ x : UInt8, spread bl true false (92 :: x :: r) = 92 :: x :: spread bl true false r := by
    intro x
    rw [spread_in (c := 92) _ (by decide), show ((92 : UInt8) == 92 && !false) = true by decide, spread_in (c := x) _ (by simp)]
    simp
  have low : ∀ n : UInt8, n < 16 → lowHex n ≠ 34 ∧ lowHex n ≠ 92 := by
    intro n hn
    have hn' : n.toNat < 16 := by rw [UInt8.lt_iff_toNat_lt] at hn; exact hn
    unfold lowHex
    by_cases h : n < 10
    · rw [if_pos h]
      rw [UInt8.lt_iff_toNat_lt] at h
      constructor <;> (intro e; have := congrArg UInt8.toNat e; rw [UInt8.toNat_add] at this; simp at this h; omega)
    · rw [if_neg h]
      rw [UInt8.lt_iff_toNat_lt] at h
      constructor <;> (intro e; have := congrArg UInt8.toNat e; rw [UInt8.toNat_add] at this; simp at this h; omega)
  by_cases h1 : c = 34
  · subst h1; exact two 34
  by_cases h2 : c = 92
  · subst h2; exact two 92
  by_cases h3 : c = 8
  · subst h3; exact two 98
  by_cases h4 : c = 12
  · subst h4; exact two 102
  by_cases h5 : c = 10
  · subst h5; exact two 110
  by_cases h6 : c = 13
  · subst h6; exact two 114
  by_cases h7 : c = 9
  · subst h7; exact two 116
  have plain : ∀ (x : UInt8) (q : Bytes), x ≠ 34 → x ≠ 92 → spread bl true false (x :: q) = x :: spread bl true false q := by
    intro x q hx hy
    rw [spread_in (c := x) _ (by simp [hx]), show (x == 92 && !false) = false by simp [hy]]
  unfold escB
  rw [if_neg h1, if_neg h2, if_neg h3, if_neg h4, if_neg h5, if_neg h6, if_neg h7]
  by_cases h8 : c < 32
  · rw [if_pos h8]
    have hc : c.toNat < 32 := by rw [UInt8.lt_iff_toNat_lt] at h8; exact h8
    have g1 : c >>> 4 < 16 := by
      rw [UInt8.lt_iff_toNat_lt, UInt8.toNat_shiftRight]
      simp [Nat.shiftRight_eq_div_pow]; omega
    have g2 : c &&& 15 < 16 := by
      rw [UInt8.lt_iff_toNat_lt, UInt8.toNat_and]
      have : c.toNat &&& (15 : UInt8).toNat ≤ (15 : UInt8).toNat := Nat.and_le_right
      simp at this ⊢; omega
    have l1 := low _ g1; have l2 := low _ g2
    show spread bl true false (92 :: 117 :: 48 :: 48 :: lowHex (c >>> 4) :: lowHex (c &&& 15) :: r) = 92 :: 117 :: 48 :: 48 :: lowHex (c >>> 4) :: lowHex (c &&& 15) :: spread bl true false r
    rw [spread_in (c := 92) _ (by decide), show ((92 : UInt8) == 92 && !false) = true by decide, spread_in (c := 117) _ (by decide), show ((117 : UInt8) == 92 && !true) = false by decide,
      plain 48 _ (by decide) (by decide), plain 48 _ (by decide) (by decide), plain _ _ l1.1 l1.2, plain _ _ l2.1 l2.2]
  · rw [if_neg h8]
    exact plain c r h1 h2
theorem spread_esc {bl : Bytes} : ∀ (t r : Bytes), spread bl true false (esc t ++ r) = esc t ++ spread bl true false r
  | [], _ => rfl
  | c :: t, r => by
    have e : esc (c :: t) = escB c ++ esc t := rfl
    rw [e, List.append_assoc, spread_escB, spread_esc t r, List.append_assoc]
theorem spread_text {bl : Bytes} (t r : Bytes) : spread bl false false (jtext t ++ r) = jtext t ++ spread bl false false r := by
  have e : jtext t ++ r = 34 :: (esc t ++ (34 :: r)) := by simp [jtext]
  rw [e]
  conv => lhs; unfold spread
  rw [if_neg (by decide), show ((34 : UInt8) == 34 && !false) = true by decide]
  simp only [if_true, Bool.not_false]
  rw [show ((true : Bool) && (34 : UInt8) == 92 && true) = false by decide, spread_esc]
  conv => lhs; rhs; rhs; unfold spread
  rw [if_neg (by decide), show ((34 : UInt8) == 34 && !false) = true by decide]
  simp [jtext]

/-! ### The bytes of a number -/
def numB (c : UInt8) : Prop := isDig c = true ∨ c ∈ ([45, 46, 101, 69, 43] : Bytes)
theorem digits_all {s : Bytes} {a b : Nat} (h : digits s a = .ok b) : ∀ k, a ≤ k → k < b → numB (peek s k) := by
  have := (digits_ok h).1
  subst this
  exact fun k h1 h2 => .inl (skipD_dig a k h1 h2)
theorem opt_all {s l : Bytes} {a : Nat} (hl : ∀ c ∈ l, numB c) : ∀ k, a ≤ k → k < opt s l a → numB (peek s k) := by
  intro k h1 h2
  unfold opt at h2
  split at h2
  · rename_i h
    have : k = a := by omega
    subst this; exact hl _ h
  · omega
theorem opt_ne {s l : Bytes} {a : Nat} (h : ¬ opt s l a = a) : peek s a ∈ l := by
  unfold opt at h
  split at h
  · assumption
  · exact absurd rfl h
theorem number_all {s : Bytes} {i j : Nat} (h : number s i = .ok j) : ∀ k, i ≤ k → k < j → numB (peek s k) := by
  unfold number at h
  split at h
  · cases h
  · rename_i a ha
    split at h
    · cases h
    · rename_i b hb
      split at h
      · cases h
      · rename_i c hc
        split at h
        · cases h
        · injection h with h; subst h
          intro k h1 h2
          have m1 := opt_all (s := s) (l := [45]) (a := i) (by intro c hc; simp at hc; subst hc; exact .inr (by simp))
          have m2 : ∀ k, opt s [45] i ≤ k → k < a → numB (peek s k) := by
            unfold numInt at ha
            split at ha
            · exact digits_all ha
            · injection ha with ha; subst ha
              intro k g1 g2
              have hk : k = opt s [45] i := by omega
              subst hk
              rename_i hne
              have hm := opt_ne hne
              simp at hm
              rw [hm]; exact .inl rfl
          have m3 : ∀ k, a ≤ k → k < b → numB (peek s k) := by
            unfold numFrac at hb
            split at hb
            · injection hb with hb; intro k g1 g2; omega
            · rename_i hne
              intro k g1 g2
              rcases Nat.lt_or_ge k (a + 1) with g | g
              · have hk : k = a := by omega
                subst hk
                have hm := opt_ne hne
                exact .inr (by simp at hm; rw [hm]; simp)
              · exact digits_all hb k g g2
          have m4 : ∀ k, b ≤ k → k < c → numB (peek s k) := by
            unfold numExp at hc
            split at hc
            · injection hc with hc; intro k g1 g2; omega
            · rename_i hne
              intro k g1 g2
              rcases Nat.lt_or_ge k (b + 1) with g | g
              · have hk : k = b := by omega
                subst hk
                have hm := opt_ne hne
                exact .inr (by simp at hm; rcases hm with hm | hm <;> rw [hm] <;> simp)
              · rcases Nat.lt_or_ge k (opt s [43, 45] (b + 1)) with g' | g'
                · exact opt_all (by intro c hc; simp at hc; rcases hc with rfl | rfl <;> exact .inr (by simp)) k g g'
                · exact digits_all hc k g' g2
          rcases Nat.lt_or_ge k (opt s [45] i) with g | g
          · exact m1 k h1 g
          · rcases Nat.lt_or_ge k a with g' | g'
            · exact m2 k g g'
            · rcases Nat.lt_or_ge k b with g'' | g''
              · exact m3 k g' g''
              · exact m4 k g'' h2
theorem isNum_all {t : Bytes} (h : isNum t) : ∀ c ∈ t, numB c := by
  intro c hc
  obtain ⟨k, hk⟩ := List.getElem?_of_mem hc
  have hlt := (List.getElem?_eq_some_iff.1 hk).1
  have := number_all h k (Nat.zero_le _) hlt
  unfold peek at this
  rw [show t.getD k 0 = c by simp [List.getD, hk]] at this
  exact this
theorem numB_quiet {c : UInt8} (h : numB c) : quiet c = true := by
  rcases h with h | h
  · unfold isDig at h
    simp only [Bool.and_eq_true, decide_eq_true_eq] at h
    rw [UInt8.le_iff_toNat_le, UInt8.le_iff_toNat_le] at h
    have ne : ∀ k : UInt8, k.toNat < 48 ∨ 57 < k.toNat → (c == k) = false := by
      intro k hk
      rw [beq_eq_false_iff_ne]
      intro e; subst e; simp at h; omega
    unfold quiet special
    rw [ne 44 (by decide), ne 58 (by decide), ne 91 (by decide), ne 93 (by decide), ne 123 (by decide), ne 125 (by decide)]
    have := ne 34 (by decide)
    simp at this ⊢; exact this
  · simp only [List.mem_cons, List.not_mem_nil, or_false] at h
    rcases h with rfl | rfl | rfl | rfl | rfl <;> decide

mutual
/-- What comes out shows the value, with blanks ahead and behind. -/
theorem spread_shows {bl : Bytes} (hb : Blanks bl) : ∀ (v : J) (d : Nat), right d v = true → ∀ r, ∃ w x w', spread bl false false (pr v ++ r) = w ++ (x ++ (w' ++ spread bl false false r)) ∧ Blanks w ∧ Blanks w' ∧ Shows v x
  | .mk k is t ns ks, d, hr, r => by
    have leaf : ∀ (l : Bytes), pr (.mk k is t ns ks) = l → (∀ c ∈ l, quiet c = true) → ¬ (k = 5 ∨ k = 6) →
        ∃ w x w', spread bl false false (pr (.mk k is t ns ks) ++ r) = w ++ (x ++ (w' ++ spread bl false false r)) ∧ Blanks w ∧ Blanks w' ∧ Shows (.mk k is t ns ks) x := by
      intro l hl hq hk
      refine ⟨[], l, [], ?_, Blanks.nil, Blanks.nil, ?_⟩
      · rw [hl, spread_quiet l r hq]; simp
      · unfold Shows; rw [if_neg hk, hl]
    by_cases h1 : k = 1
    · subst h1
      exact leaf [110, 117, 108, 108] (by unfold pr; simp) (by decide) (by decide)
    by_cases h2 : k = 2
    · subst h2
      cases is
      · exact leaf [102, 97, 108, 115, 101] (by unfold pr; simp) (by decide) (by decide)
      · exact leaf [116, 114, 117, 101] (by unfold pr; simp) (by decide) (by decide)
    by_cases h3 : k = 3
    · subst h3
      unfold right at hr
      rw [if_neg (by decide), if_neg (by decide), if_pos rfl] at hr
      simp only [Bool.and_eq_true, decide_eq_true_eq] at hr
      exact leaf t (by unfold pr; simp) (fun c hc => numB_quiet (isNum_all hr.2 c hc)) (by decide)
    by_cases h4 : k = 4
    · subst h4
      refine ⟨[], jtext t, [], ?_, Blanks.nil, Blanks.nil, ?_⟩
      · rw [show pr (.mk 4 is t ns ks) = jtext t by unfold pr; simp, spread_text]; simp
      · unfold Shows; rw [if_neg (by decide)]; unfold pr; simp
    by_cases h5 : k = 5
    · subst h5
      have hrk : rightK (d + 1) ks = true := by
        unfold right at hr
        rw [if_neg (by decide), if_neg (by decide), if_neg (by decide), if_neg (by decide), if_pos rfl] at hr
        simp only [Bool.and_eq_true] at hr
        exact hr.2
      obtain ⟨y, hy, hs⟩ := spreadK_shows hb ks false true ns (d + 1) hrk (93 :: r)
      refine ⟨bl, 91 :: ((bl ++ (y ++ bl)) ++ [93]), bl, ?_, hb, hb, ?_⟩
      · have e : pr (.mk 5 is t ns ks) ++ r = 91 :: (prK false true ns ks ++ 93 :: r) := by unfold pr; simp
        rw [e, spread_special (by decide), hy, spread_special (by decide)]
        simp
      · unfold Shows
        rw [if_pos (.inl rfl)]
        exact ⟨bl ++ (y ++ bl), rfl, hs bl bl hb hb⟩
    by_cases h6 : k = 6
    · subst h6
      have hrk : rightK (d + 1) ks = true := by
        unfold right at hr
        rw [if_neg (by decide), if_neg (by decide), if_neg (by decide), if_neg (by decide), if_neg (by decide), if_pos rfl] at hr
        simp only [Bool.and_eq_true] at hr
        exact hr.2
      obtain ⟨y, hy, hs⟩ := spreadK_shows hb ks true true ns (d + 1) hrk (125 :: r)
      refine ⟨bl, 123 :: ((bl ++ (y ++ bl)) ++ [125]), bl, ?_, hb, hb, ?_⟩
      · have e : pr (.mk 6 is t ns ks) ++ r = 123 :: (prK true true ns ks ++ 125 :: r) := by unfold pr; simp
        rw [e, spread_special (by decide), hy, spread_special (by decide)]
        simp
      · unfold Shows
        rw [if_pos (.inr rfl)]
        exact ⟨bl ++ (y ++ bl), rfl, hs bl bl hb hb⟩
    · unfold right at hr
      rw [if_neg h1, if_neg h2, if_neg h3, if_neg h4, if_neg h5, if_neg h6] at hr
      cases hr
theorem spreadK_shows {bl : Bytes} (hb : Blanks bl) : ∀ (ks : List J) (o f : Bool) (ns : List Bytes) (d : Nat), rightK d ks = true → ∀ r, ∃ y, spread bl false false (prK o f ns ks ++ r) = y ++ spread bl false false r ∧ ∀ p q, Blanks p → Blanks q → ShowsK o f ns ks (p ++ (y ++ q))
  | [], o, f, ns, d, _, r => by
    refine ⟨[], ?_, fun p q hp hq => ?_⟩
    · unfold prK; rfl
    · unfold ShowsK; exact hp.append hq
  | k :: ks, o, f, ns, d, hr, r => by
    unfold rightK at hr
    simp only [Bool.and_eq_true] at hr
    obtain ⟨y, hy, hs⟩ := spreadK_shows hb ks o false ns.tail d hr.2 r
    obtain ⟨w, x, w', hx, hw, hw', hsx⟩ := spread_shows hb k d hr.1 (prK o false ns.tail ks ++ r)
    have hk : ∀ q : Bytes, spread bl false false ((if f = true then [] else [44]) ++ q) = (if f = true then [] else bl ++ 44 :: bl) ++ spread bl false false q := by
      intro q
      cases f
      · simp only [Bool.false_eq_true, if_false]
        show spread bl false false (44 :: q) = _
        rw [spread_special (by decide)]; simp
      · simp
    have ho : ∀ q : Bytes, spread bl false false ((if o = true then jtext (ns.headD []) ++ [58] else []) ++ q) = (if o = true then jtext (ns.headD []) ++ (bl ++ 58 :: bl) else []) ++ spread bl false false q := by
      intro q
      cases o
      · simp
      · simp only [if_true]
        rw [List.append_assoc, spread_text]
        show jtext _ ++ spread bl false false (58 :: q) = _
        rw [spread_special (by decide)]; simp
    refine ⟨(if f = true then [] else bl ++ 44 :: bl) ++ ((if o = true then jtext (ns.headD []) ++ (bl ++ 58 :: bl) else []) ++ (w ++ (x ++ (w' ++ y)))), ?_, fun p q hp hq => ?_⟩
    · unfold prK
      rw [List.append_assoc, hk, List.append_assoc, ho, List.append_assoc, hx, hy]
      simp
    · unfold ShowsK
      refine ⟨if f = true then p else p ++ bl, bl, bl, if o = true then bl ++ w else w, x, w' ++ (y ++ q), ?_, hb, hb, ?_, ?_, hsx, hs w' q hw' hq⟩
      · cases f
        · exact hp.append hb
        · exact hp
      · cases o
        · exact hw
        · exact hb.append hw
      · cases f <;> cases o <;> simp
end

/-- The law on blanks, of the model. -/
theorem parse_spread {v : J} {bl : Bytes} (hb : Blanks bl) (hl : bl.length ≤ 1) (hr : Right v = true) (hp : (pr v).length ≤ 20000) : parse (bl ++ (spread bl false false (pr v) ++ bl)) = .ok v := by
  have hr0 : right 0 v = true := by
    unfold Right at hr
    simp only [Bool.and_eq_true] at hr
    exact hr.2
  obtain ⟨w, x, w', hx, hw, hw', hs⟩ := spread_shows hb v 0 hr0 []
  have h3 := spread_length hl (pr v) false false
  rw [List.append_nil] at hx
  rw [show spread bl false false [] = [] from rfl, List.append_nil] at hx
  have e : bl ++ (spread bl false false (pr v) ++ bl) = (bl ++ w) ++ (x ++ (w' ++ bl)) := by rw [hx]; simp
  have hlen : ((bl ++ w) ++ (x ++ (w' ++ bl))).length ≤ 100000 := by
    rw [← e]; simp only [List.length_append]; omega
  rw [e]
  exact parse_shows hr hs (hb.append hw) (hw'.append hb) hlen
end Cx
namespace Cx

theorem kids_kind {v : J} {d : Nat} (hr : right d v = true) (hk : 3 < v.kind) : ∃ c r, pr v = c :: r ∧ (c = 34 ∨ c = 91 ∨ c = 123) := by
  obtain ⟨k, is, t, ns, ks⟩ := v
  have hk : 3 < k := hk
  unfold right at hr
  unfold pr
  rw [if_neg (by omega), if_neg (by omega), if_neg (by omega)] at hr ⊢
  by_cases k4 : k = 4
  · rw [if_pos k4]; exact ⟨_, _, rfl, .inl rfl⟩
  · rw [if_neg k4]
    by_cases k6 : k = 6
    · rw [if_pos k6]; exact ⟨_, _, rfl, .inr (.inr rfl)⟩
    · rw [if_neg k6]; exact ⟨_, _, rfl, .inr (.inl rfl)⟩

theorem parts_kind {val : Nat → Nat → Res (J × Nat × Nat)} {s : Bytes} {obj : Bool} : ∀ {n i m : Nat} {ns : List Bytes} {ks : List J} {v : J} {j m' : Nat}, parts val s obj n i m ns ks = .ok (v, j, m') → v.kind = (if obj then 6 else 5)
  | 0, _, _, _, _, _, _, _, h => by cases h
  | n + 1, i, m, ns, ks, v, j, m', h => by
    unfold parts at h
    split at h
    · cases h
    · split at h
      · cases h
      · split at h
        · exact parts_kind h
        · split at h
          · cases h
          · injection h with h; injection h with h _; subst h; rfl

theorem value_kind {s : Bytes} {n d i m : Nat} {v : J} {j m' : Nat} (h : value s n d i m = .ok (v, j, m')) (hc : peek s (skipB s i) = 34 ∨ peek s (skipB s i) = 91 ∨ peek s (skipB s i) = 123) : v.kind ≠ 3 := by
  cases n with
  | zero => cases h
  | succ n =>
    unfold value at h
    simp only at h
    generalize skipB s i = p at *
    split at h
    · cases h
    · split at h
      · cases h
      · rw [if_neg (by rcases hc with e | e | e <;> rw [e] <;> decide), if_neg (by rcases hc with e | e | e <;> rw [e] <;> decide), if_neg (by rcases hc with e | e | e <;> rw [e] <;> decide)] at h
        split at h
        · split at h
          · cases h
          · injection h with h; injection h with h _; subst h; show (4 : Int) ≠ 3; decide
        · rename_i h34
          have hc2 : peek s p = 91 ∨ peek s p = 123 := hc.resolve_left h34
          rw [if_pos hc2] at h
          split at h
          · cases h
          · unfold group at h
            by_cases hb : peek s (skipB s (p + 1)) = (if decide (peek s p = 123) = true then 125 else 93)
            · rw [if_pos hb] at h
              injection h with h; injection h with h _; subst h
              show (if _ then (6 : Int) else 5) ≠ 3
              split <;> decide
            · rw [if_neg hb] at h
              rw [parts_kind h]; split <;> decide

theorem parse_prefix {v : J} {k : Nat} (hr : Right v = true) (hk : 3 < v.kind) (hl : k < (pr v).length) : ∃ e p, parse ((pr v).take k) = .error (e, p) ∧ p ≤ k := by
  cases hp : parse ((pr v).take k) with
  | error e =>
    have := parse_err hp
    simp at this
    exact ⟨e.1, e.2, rfl, by omega⟩
  | ok w =>
    exfalso
    have hr' := hr
    simp only [Right, Bool.and_eq_true, decide_eq_true_eq] at hr'
    obtain ⟨c, r, hc, hcc⟩ := kids_kind hr'.2 hk
    unfold parse at hp
    split at hp
    · cases hp
    · split at hp
      · cases hp
      · rename_i w' j m' hv
        have hlen : ((pr v).take k).length = k := by simp; omega
        have hfine := (value_fine ((pr v).take k) (((pr v).take k).length + 1) 0 (by omega)).ok 0 0 _ _ _ (by omega) (by omega) hv
        have hk0 : 0 < k := by omega
        have hd : ((pr v).take k).drop 0 = c :: r.take (k - 1) := by
          rw [hc]; cases k with
          | zero => omega
          | succ q => simp
        have hb : isBlank c = false := by rcases hcc with e | e | e <;> subst e <;> rfl
        have hsk : skipB ((pr v).take k) 0 = 0 := skipB_stop (by rw [peek_drop hd]; exact hb)
        have hkind := value_kind hv (by rw [hsk, peek_drop hd]; exact hcc)
        have happ := value_app (t := (pr v).drop k) (show ((pr v).take k).length + 1 ≤ (pr v).length + 1 by omega) hv (.inr hkind)
        rw [List.take_append_drop] at happ
        have hback := value_back (pr v) v 0 (pr v) hr'.2 (shows_pr v 0 hr'.2) ((pr v).length + 1) 0 0 [] [] (by omega) Blanks.nil (by simp) ends_nil (by omega)
        rw [hback] at happ
        injection happ with happ; injection happ with _ happ; injection happ with e _
        simp at e
        omega
end Cx
namespace Cx

theorem word_errne {s : Bytes} : ∀ {w : Bytes} {i : Nat} {e : Nat × Nat}, word s w i = .error e → e.1 ≠ 0
  | [], _, _, h => by unfold word at h; cases h
  | c :: w, i, e, h => by
    unfold word at h
    split at h
    · exact word_errne h
    · injection h with h; subst h; simp
theorem digits_errne {s : Bytes} {i : Nat} {e : Nat × Nat} (h : digits s i = .error e) : e.1 ≠ 0 := by
  rw [digits_err h]; simp
theorem number_errne {s : Bytes} {i : Nat} {e : Nat × Nat} (h : number s i = .error e) : e.1 ≠ 0 := by
  unfold number at h
  split at h
  · rename_i e' h1
    injection h with h; subst h
    unfold numInt at h1
    split at h1
    · exact digits_errne h1
    · cases h1
  · split at h
    · rename_i e' h1
      injection h with h; subst h
      unfold numFrac at h1
      split at h1
      · cases h1
      · exact digits_errne h1
    · split at h
      · rename_i e' h1
        injection h with h; subst h
        unfold numExp at h1
        split at h1
        · cases h1
        · exact digits_errne h1
      · split at h
        · injection h with h; subst h; simp
        · cases h
theorem textN_errne {s : Bytes} : ∀ {n i : Nat} {acc : Bytes} {e : Nat × Nat}, textN s n i acc = .error e → e.1 ≠ 0
  | 0, i, acc, e, h => by unfold textN at h; injection h with h; subst h; simp
  | n + 1, i, acc, e, h => by
    rw [textN_succ] at h
    split at h
    · injection h with h; subst h; simp
    · split at h
      · cases h
      · split at h
        · split at h
          · rename_i e' he
            injection h with h; subst h
            rw [escape_err he]; simp
          · exact textN_errne h
        · split at h
          · injection h with h; subst h; simp
          · exact textN_errne h
theorem text_errne {s : Bytes} {i : Nat} {e : Nat × Nat} (h : text s i = .error e) : e.1 ≠ 0 := by
  unfold text at h
  split at h
  · exact textN_errne h
  · injection h with h; subst h; simp
theorem name_errne {s : Bytes} {l : List Bytes} {i : Nat} {e : Nat × Nat} (h : name s l i = .error e) : e.1 ≠ 0 := by
  unfold name at h
  split at h
  · rename_i e' he
    injection h with h; subst h
    exact text_errne he
  · split at h
    · injection h with h; subst h; simp
    · split at h
      · rename_i e' he
        injection h with h; subst h
        exact word_errne he
      · cases h
theorem parts_errne {s : Bytes} {val : Nat → Nat → Res (J × Nat × Nat)} (hv : ∀ i m e, val i m = .error e → e.1 ≠ 0) (obj : Bool) :
    ∀ {n i m : Nat} {ns : List Bytes} {ks : List J} {e : Nat × Nat}, parts val s obj n i m ns ks = .error e → e.1 ≠ 0
  | 0, i, m, ns, ks, e, h => by unfold parts at h; injection h with h; subst h; simp
  | n + 1, i, m, ns, ks, e, h => by
    unfold parts at h
    cases h1 : (if obj = true then name s ns i else Except.ok ([], i)) with
    | error e' =>
      rw [h1] at h
      injection h with h; subst h
      cases obj with
      | true => exact name_errne h1
      | false => cases h1
    | ok a =>
      obtain ⟨t, i1⟩ := a
      rw [h1] at h
      simp only at h
      cases h2 : val i1 m with
      | error e' =>
        rw [h2] at h
        injection h with h; subst h
        exact hv _ _ _ h2
      | ok b =>
        obtain ⟨k, i2, m2⟩ := b
        rw [h2] at h
        simp only at h
        split at h
        · exact parts_errne hv obj h
        · cases h3 : word s [if obj = true then 125 else 93] (skipB s i2) with
          | error e' =>
            rw [h3] at h
            injection h with h; subst h
            exact word_errne h3
          | ok j => rw [h3] at h; cases h
theorem wordv_errne {s w : Bytes} {i m : Nat} {v : J} {e : Nat × Nat} (h : (match word s w i with | .error e => .error e | .ok k => .ok (v, k, m) : Res (J × Nat × Nat)) = .error e) : e.1 ≠ 0 := by
  cases hw : word s w i with
  | error e' => rw [hw] at h; injection h with h; subst h; exact word_errne hw
  | ok k => rw [hw] at h; cases h
theorem value_errne (s : Bytes) : ∀ (n d i m : Nat) (e : Nat × Nat), value s n d i m = .error e → e.1 ≠ 0
  | 0, d, i, m, e, h => by simp only [value] at h; injection h with h; subst h; simp
  | n + 1, d, i, m, e, h => by
    simp only [value] at h
    generalize skipB s i = p at *
    split at h
    · injection h with h; subst h; simp
    · split at h
      · injection h with h; subst h; simp
      · split at h
        · exact wordv_errne h
        · split at h
          · exact wordv_errne h
          · split at h
            · exact wordv_errne h
            · split at h
              · cases ht : text s p with
                | error e' => rw [ht] at h; injection h with h; subst h; exact text_errne ht
                | ok a => rw [ht] at h; cases h
              · split at h
                · split at h
                  · injection h with h; subst h; simp
                  · unfold group at h
                    by_cases hc : peek s (skipB s (p + 1)) = (if decide (peek s p = 123) = true then 125 else 93)
                    · rw [if_pos hc] at h; cases h
                    · rw [if_neg hc] at h
                      exact parts_errne (fun i m e h => value_errne s n (d + 1) i m e h) _ h
                · cases hn : number s p with
                  | error e' => rw [hn] at h; injection h with h; subst h; exact number_errne hn
                  | ok k => rw [hn] at h; cases h
theorem parse_errne {s : Bytes} {e : Nat × Nat} (h : parse s = .error e) : e.1 ≠ 0 := by
  unfold parse at h
  split at h
  · injection h with h; subst h; simp
  · split at h
    · rename_i e' hv
      injection h with h; subst h
      exact value_errne _ _ _ _ _ _ hv
    · split at h
      · injection h with h; subst h; simp
      · cases h
end Cx
namespace Cx

def isRune (v : Int) : Bool := decide (0 ≤ v) && decide (v ≤ 1114111) && (decide (v < 55296) || decide (57343 < v))
def rstep (v : Int) (c : UInt8) : Int := 64 * v + c.toNat - 128
def rbase (n : Nat) (a : UInt8) : Int := if n = 2 then (a.toNat : Int) - 192 else if n = 3 then (a.toNat : Int) - 224 else if n = 4 then (a.toNat : Int) - 240 else a.toNat
/-- What n bytes say as a rune. -/
def runeV (n : Nat) (l : Bytes) : Int := ((l.drop 1).take (n - 1)).foldl rstep (rbase n (l.headD 0))

theorem isRune_iff {v : Int} : isRune v = true ↔ 0 ≤ v ∧ v ≤ 1114111 ∧ (v < 55296 ∨ 57343 < v) := by
  simp [isRune, and_assoc]
theorem u8_eq_iff (a : UInt8) (n : Nat) (h : n < 256) : UInt8.ofNat n = a ↔ a.toNat = n := by
  constructor
  · intro e; rw [← e]; simp [UInt8.toNat_ofNat']; omega
  · intro e; apply UInt8.toNat_inj.1; simp [UInt8.toNat_ofNat']; omega
theorem cont_iff {c : UInt8} : cont c = true ↔ 128 ≤ c.toNat ∧ c.toNat ≤ 191 := by
  simp only [cont, Bool.and_eq_true, decide_eq_true_eq, UInt8.le_iff_toNat_le]; exact Iff.rfl

theorem rune_one (a : UInt8) (r : Bytes) : (isRune (runeV 1 (a :: r)) = true ∧ enc (runeV 1 (a :: r)).toNat = [a]) ↔ runeLen (a :: r) = 1 := by
  have e : runeV 1 (a :: r) = a.toNat := rfl
  rw [e]
  have ha := a.toNat_lt
  have h1 : isRune a.toNat = true := isRune_iff.2 (by omega)
  have h2 : runeLen (a :: r) = 1 ↔ a.toNat < 128 := by
    show runeLenC a r = 1 ↔ _
    unfold runeLenC
    have : (a < 128) ↔ a.toNat < 128 := by rw [UInt8.lt_iff_toNat_lt]; exact Iff.rfl
    by_cases h : a < 128
    · rw [if_pos h]; exact ⟨fun _ => this.1 h, fun _ => rfl⟩
    · rw [if_neg h]
      constructor
      · intro h'; repeat' split at h'
        all_goals cases h'
      · intro h'; exact absurd (this.2 h') h
  rw [h2]
  constructor
  · rintro ⟨_, h⟩
    rcases Nat.lt_or_ge a.toNat 128 with g | g
    · exact g
    · exfalso
      unfold enc at h
      simp only [Int.toNat_natCast] at h
      rw [if_neg (by omega), if_pos (by omega)] at h
      simp at h
  · intro h
    refine ⟨h1, ?_⟩
    unfold enc
    simp only [Int.toNat_natCast]
    rw [if_pos (by omega)]
    simp

theorem runeLenC_two (a b : UInt8) (r : Bytes) : runeLenC a (b :: r) = 2 ↔ (194 ≤ a.toNat ∧ a.toNat ≤ 223) ∧ (128 ≤ b.toNat ∧ b.toNat ≤ 191) := by
  unfold runeLenC
  simp only [UInt8.lt_iff_toNat_lt, UInt8.le_iff_toNat_le, cont_iff, List.getD_cons_zero, List.getD_cons_succ]
  simp only [show (128 : UInt8).toNat = 128 from rfl, show (194 : UInt8).toNat = 194 from rfl, show (223 : UInt8).toNat = 223 from rfl, show (224 : UInt8).toNat = 224 from rfl, show (239 : UInt8).toNat = 239 from rfl, show (240 : UInt8).toNat = 240 from rfl, show (244 : UInt8).toNat = 244 from rfl]
  constructor
  · intro h
    repeat' split at h
    all_goals first | omega | (exfalso; revert h; decide) | skip
  · intro h
    rw [if_neg (by omega), if_pos (by omega), if_pos h.2]
theorem rune_two (a b : UInt8) (r : Bytes) : (isRune (runeV 2 (a :: b :: r)) = true ∧ enc (runeV 2 (a :: b :: r)).toNat = [a, b]) ↔ runeLen (a :: b :: r) = 2 := by
  have ha := a.toNat_lt; have hb := b.toNat_lt
  show _ ↔ runeLenC a (b :: r) = 2
  rw [runeLenC_two]
  have e : runeV 2 (a :: b :: r) = 64 * ((a.toNat : Int) - 192) + b.toNat - 128 := rfl
  rw [e, isRune_iff]
  constructor
  · rintro ⟨⟨h0, h1, h2⟩, h⟩
    obtain ⟨v, hv⟩ : ∃ v : Nat, (v : Int) = 64 * ((a.toNat : Int) - 192) + b.toNat - 128 := ⟨(64 * ((a.toNat : Int) - 192) + b.toNat - 128).toNat, by omega⟩
    rw [← hv] at h
    simp only [Int.toNat_natCast] at h
    unfold enc at h
    by_cases g1 : v < 128
    · rw [if_pos g1] at h; simp at h
    · rw [if_neg g1] at h
      by_cases g2 : v < 2048
      · rw [if_pos g2] at h
        injection h with ea h
        injection h with eb _
        rw [u8_eq_iff _ _ (by omega)] at ea eb
        omega
      · rw [if_neg g2] at h
        split at h <;> simp at h
  · intro h
    refine ⟨by omega, ?_⟩
    obtain ⟨v, hv⟩ : ∃ v : Nat, (v : Int) = 64 * ((a.toNat : Int) - 192) + b.toNat - 128 := ⟨(64 * ((a.toNat : Int) - 192) + b.toNat - 128).toNat, by omega⟩
    rw [← hv]
    simp only [Int.toNat_natCast]
    unfold enc
    rw [if_neg (by omega), if_pos (by omega), (u8_eq_iff a _ (by omega)).2 (by omega), (u8_eq_iff b _ (by omega)).2 (by omega)]

theorem runeLenC_three (a b c : UInt8) (r : Bytes) : runeLenC a (b :: c :: r) = 3 ↔ (224 ≤ a.toNat ∧ a.toNat ≤ 239) ∧ (128 ≤ b.toNat ∧ b.toNat ≤ 191) ∧ (128 ≤ c.toNat ∧ c.toNat ≤ 191) ∧ (a.toNat = 224 → 160 ≤ b.toNat) ∧ (a.toNat = 237 → b.toNat ≤ 159) := by
  unfold runeLenC
  have e1 : ∀ k : UInt8, a = k ↔ a.toNat = k.toNat := fun k => UInt8.toNat_inj.symm
  simp only [UInt8.lt_iff_toNat_lt, UInt8.le_iff_toNat_le, cont_iff, List.getD_cons_zero, List.getD_cons_succ, e1]
  simp only [show (128 : UInt8).toNat = 128 from rfl, show (194 : UInt8).toNat = 194 from rfl, show (223 : UInt8).toNat = 223 from rfl, show (224 : UInt8).toNat = 224 from rfl, show (239 : UInt8).toNat = 239 from rfl, show (240 : UInt8).toNat = 240 from rfl, show (244 : UInt8).toNat = 244 from rfl, show (237 : UInt8).toNat = 237 from rfl, show (160 : UInt8).toNat = 160 from rfl, show (159 : UInt8).toNat = 159 from rfl]
  constructor
  · intro h
    repeat' split at h
    all_goals first | omega | (exfalso; revert h; decide) | skip
  · intro h
    rw [if_neg (by omega), if_neg (by omega), if_pos (by omega), if_pos h.2]
theorem rune_three (a b c : UInt8) (r : Bytes) : (isRune (runeV 3 (a :: b :: c :: r)) = true ∧ enc (runeV 3 (a :: b :: c :: r)).toNat = [a, b, c]) ↔ runeLen (a :: b :: c :: r) = 3 := by
  have ha := a.toNat_lt; have hb := b.toNat_lt; have hc := c.toNat_lt
  show _ ↔ runeLenC a (b :: c :: r) = 3
  rw [runeLenC_three]
  have e : runeV 3 (a :: b :: c :: r) = 64 * (64 * ((a.toNat : Int) - 224) + b.toNat - 128) + c.toNat - 128 := rfl
  rw [e, isRune_iff]
  constructor
  · rintro ⟨⟨h0, h1, h2⟩, h⟩
    obtain ⟨v, hv⟩ : ∃ v : Nat, (v : Int) = 64 * (64 * ((a.toNat : Int) - 224) + b.toNat - 128) + c.toNat - 128 := ⟨(64 * (64 * ((a.toNat : Int) - 224) + b.toNat - 128) + c.toNat - 128).toNat, by omega⟩
    rw [← hv] at h
    simp only [Int.toNat_natCast] at h
    unfold enc at h
    by_cases g1 : v < 128
    · rw [if_pos g1] at h; simp at h
    · rw [if_neg g1] at h
      by_cases g2 : v < 2048
      · rw [if_pos g2] at h; simp at h
      · rw [if_neg g2] at h
        by_cases g3 : v < 65536
        · rw [if_pos g3] at h
          injection h with ea h
          injection h with eb h
          injection h with ec _
          rw [u8_eq_iff _ _ (by omega)] at ea eb ec
          omega
        · rw [if_neg g3] at h; simp at h
  · intro h
    refine ⟨by omega, ?_⟩
    obtain ⟨v, hv⟩ : ∃ v : Nat, (v : Int) = 64 * (64 * ((a.toNat : Int) - 224) + b.toNat - 128) + c.toNat - 128 := ⟨(64 * (64 * ((a.toNat : Int) - 224) + b.toNat - 128) + c.toNat - 128).toNat, by omega⟩
    rw [← hv]
    simp only [Int.toNat_natCast]
    unfold enc
    rw [if_neg (by omega), if_neg (by omega), if_pos (by omega), (u8_eq_iff a _ (by omega)).2 (by omega), (u8_eq_iff b _ (by omega)).2 (by omega), (u8_eq_iff c _ (by omega)).2 (by omega)]

theorem runeLenC_four (a b c d : UInt8) (r : Bytes) : runeLenC a (b :: c :: d :: r) = 4 ↔ (240 ≤ a.toNat ∧ a.toNat ≤ 244) ∧ (128 ≤ b.toNat ∧ b.toNat ≤ 191) ∧ (128 ≤ c.toNat ∧ c.toNat ≤ 191) ∧ (128 ≤ d.toNat ∧ d.toNat ≤ 191) ∧ (a.toNat = 240 → 144 ≤ b.toNat) ∧ (a.toNat = 244 → b.toNat ≤ 143) := by
  unfold runeLenC
  have e1 : ∀ k : UInt8, a = k ↔ a.toNat = k.toNat := fun k => UInt8.toNat_inj.symm
  simp only [UInt8.lt_iff_toNat_lt, UInt8.le_iff_toNat_le, cont_iff, List.getD_cons_zero, List.getD_cons_succ, e1]
  simp only [show (128 : UInt8).toNat = 128 from rfl, show (194 : UInt8).toNat = 194 from rfl, show (223 : UInt8).toNat = 223 from rfl, show (224 : UInt8).toNat = 224 from rfl, show (239 : UInt8).toNat = 239 from rfl, show (240 : UInt8).toNat = 240 from rfl, show (244 : UInt8).toNat = 244 from rfl, show (144 : UInt8).toNat = 144 from rfl, show (143 : UInt8).toNat = 143 from rfl]
  constructor
  · intro h
    repeat' split at h
    all_goals first | omega | (exfalso; revert h; decide) | skip
  · intro h
    rw [if_neg (by omega), if_neg (by omega), if_neg (by omega), if_pos (by omega), if_pos h.2]
theorem rune_four (a b c d : UInt8) (r : Bytes) : (isRune (runeV 4 (a :: b :: c :: d :: r)) = true ∧ enc (runeV 4 (a :: b :: c :: d :: r)).toNat = [a, b, c, d]) ↔ runeLen (a :: b :: c :: d :: r) = 4 := by
  have ha := a.toNat_lt; have hb := b.toNat_lt; have hc := c.toNat_lt; have hd := d.toNat_lt
  show _ ↔ runeLenC a (b :: c :: d :: r) = 4
  rw [runeLenC_four]
  have e : runeV 4 (a :: b :: c :: d :: r) = 64 * (64 * (64 * ((a.toNat : Int) - 240) + b.toNat - 128) + c.toNat - 128) + d.toNat - 128 := rfl
  rw [e, isRune_iff]
  constructor
  · rintro ⟨⟨h0, h1, h2⟩, h⟩
    obtain ⟨v, hv⟩ : ∃ v : Nat, (v : Int) = 64 * (64 * (64 * ((a.toNat : Int) - 240) + b.toNat - 128) + c.toNat - 128) + d.toNat - 128 := ⟨(64 * (64 * (64 * ((a.toNat : Int) - 240) + b.toNat - 128) + c.toNat - 128) + d.toNat - 128).toNat, by omega⟩
    rw [← hv] at h
    simp only [Int.toNat_natCast] at h
    unfold enc at h
    by_cases g1 : v < 128
    · rw [if_pos g1] at h; simp at h
    · rw [if_neg g1] at h
      by_cases g2 : v < 2048
      · rw [if_pos g2] at h; simp at h
      · rw [if_neg g2] at h
        by_cases g3 : v < 65536
        · rw [if_pos g3] at h; simp at h
        · rw [if_neg g3] at h
          injection h with ea h
          injection h with eb h
          injection h with ec h
          injection h with ed _
          rw [u8_eq_iff _ _ (by omega)] at ea eb ec ed
          omega
  · intro h
    refine ⟨by omega, ?_⟩
    obtain ⟨v, hv⟩ : ∃ v : Nat, (v : Int) = 64 * (64 * (64 * ((a.toNat : Int) - 240) + b.toNat - 128) + c.toNat - 128) + d.toNat - 128 := ⟨(64 * (64 * (64 * ((a.toNat : Int) - 240) + b.toNat - 128) + c.toNat - 128) + d.toNat - 128).toNat, by omega⟩
    rw [← hv]
    simp only [Int.toNat_natCast]
    unfold enc
    rw [if_neg (by omega), if_neg (by omega), if_neg (by omega), (u8_eq_iff a _ (by omega)).2 (by omega), (u8_eq_iff b _ (by omega)).2 (by omega), (u8_eq_iff c _ (by omega)).2 (by omega), (u8_eq_iff d _ (by omega)).2 (by omega)]

/-- The number of a rune's bytes is the one whose number's bytes they are. -/
theorem rune_n (l : Bytes) (n : Nat) (h1 : 1 ≤ n) (h4 : n ≤ 4) (hl : n ≤ l.length) : (isRune (runeV n l) = true ∧ enc (runeV n l).toNat = l.take n) ↔ runeLen l = n := by
  have hn : n = 1 ∨ n = 2 ∨ n = 3 ∨ n = 4 := by omega
  rcases hn with rfl | rfl | rfl | rfl
  · match l, hl with
    | a :: r, _ => exact rune_one a r
  · match l, hl with
    | a :: b :: r, _ => exact rune_two a b r
    | [_], hl => simp at hl
  · match l, hl with
    | a :: b :: c :: r, _ => exact rune_three a b c r
    | [_, _], hl => simp at hl
    | [_], hl => simp at hl
  · match l, hl with
    | a :: b :: c :: d :: r, _ => exact rune_four a b c d r
    | [_, _, _], hl => simp at hl
    | [_, _], hl => simp at hl
    | [_], hl => simp at hl
end Cx
