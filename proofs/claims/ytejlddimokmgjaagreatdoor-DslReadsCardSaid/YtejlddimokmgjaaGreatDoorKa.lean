/- The plain model of the parser of package json: functions on lists of bytes; no program in sight. The plain model of the printer of package json, and what a right value is. Plain facts on the readers: what stands at a place; bounds. Plain facts on numbers: bounds; a number is told by its own bytes and what stands behind them. Plain facts on texts: what is read of a text is valid; a valid text, written, is read as it was. Plain laws: what is read is right; a right value that is written, with blanks anywhere between its parts, is read as it was; a text that goes on is read as it was. Plain laws: a right value that is written, with blanks anywhere between its parts, is read as it was. Plain laws: a right value, as it is written, is read as it was. -/

namespace Cx

abbrev Bytes := List UInt8

/-- A JSON value as data. -/
inductive J where
  | mk (kind : Int) (is : Bool) (text : Bytes) (names : List Bytes) (kids : List J)

namespace J
def kind : J → Int | .mk k _ _ _ _ => k
def is : J → Bool | .mk _ b _ _ _ => b
def text : J → Bytes | .mk _ _ t _ _ => t
def names : J → List Bytes | .mk _ _ _ n _ => n
def kids : J → List J | .mk _ _ _ _ k => k
end J

/-- What a reader comes to: a value, or a fault: which, and where. -/
abbrev Res (α : Type) := Except (Nat × Nat) α

def isBlank (c : UInt8) : Bool := c == 32 || c == 9 || c == 10 || c == 13
def isDig (c : UInt8) : Bool := decide (48 ≤ c) && decide (c ≤ 57)

def skipB (s : Bytes) (i : Nat) : Nat := i + ((s.drop i).takeWhile isBlank).length
def skipD (s : Bytes) (i : Nat) : Nat := i + ((s.drop i).takeWhile isDig).length

/-- The byte that stands at a place; 0 behind the end. -/
def peek (s : Bytes) (i : Nat) : UInt8 := s.getD i 0

def digits (s : Bytes) (i : Nat) : Res Nat := if skipD s i = i then .error (7, i) else .ok (skipD s i)

/-- Past one of some bytes, if it stands next. -/
def opt (s : Bytes) (l : Bytes) (i : Nat) : Nat := if peek s i ∈ l then i + 1 else i

def numInt (s : Bytes) (i : Nat) : Res Nat := if opt s [48] i = i then digits s i else .ok (i + 1)
def numFrac (s : Bytes) (i : Nat) : Res Nat := if opt s [46] i = i then .ok i else digits s (i + 1)
def numExp (s : Bytes) (i : Nat) : Res Nat := if opt s [101, 69] i = i then .ok i else digits s (opt s [43, 45] (i + 1))

/-- The end of the number that begins at a place. -/
def number (s : Bytes) (i : Nat) : Res Nat :=
  match numInt s (opt s [45] i) with
  | .error e => .error e
  | .ok a => match numFrac s a with
    | .error e => .error e
    | .ok b => match numExp s b with
      | .error e => .error e
      | .ok c => if c - i > 40 then .error (5, i) else .ok c

def hexv (c : UInt8) : Option Nat :=
  if 48 ≤ c.toNat ∧ c.toNat ≤ 57 then some (c.toNat - 48)
  else if 97 ≤ c.toNat ∧ c.toNat ≤ 102 then some (c.toNat - 87)
  else if 65 ≤ c.toNat ∧ c.toNat ≤ 70 then some (c.toNat - 55)
  else none

/-- The number that four hexadecimal digits say. -/
def hex4 : Bytes → Option Nat
  | [a, b, c, d] => match hexv a, hexv b, hexv c, hexv d with
    | some a, some b, some c, some d => some (((a * 16 + b) * 16 + c) * 16 + d)
    | _, _, _, _ => none
  | _ => none

/-- What four digits behind a backslash and u say at a place. -/
def unit (s : Bytes) (i : Nat) : Option Nat :=
  match s.drop i with
  | 92 :: 117 :: a :: b :: c :: d :: _ => hex4 [a, b, c, d]
  | _ => none

/-- The bytes of a rune. -/
def enc (r : Nat) : Bytes :=
  if r < 0x80 then [UInt8.ofNat r]
  else if r < 0x800 then [UInt8.ofNat (0xC0 + r / 64), UInt8.ofNat (0x80 + r % 64)]
  else if r < 0x10000 then [UInt8.ofNat (0xE0 + r / 4096), UInt8.ofNat (0x80 + r / 64 % 64), UInt8.ofNat (0x80 + r % 64)]
  else [UInt8.ofNat (0xF0 + r / 262144), UInt8.ofNat (0x80 + r / 4096 % 64), UInt8.ofNat (0x80 + r / 64 % 64), UInt8.ofNat (0x80 + r % 64)]

/-- What a backslash and one sign behind it say. -/
def simple (c : UInt8) : Option UInt8 :=
  if c = 34 then some 34 else if c = 92 then some 92 else if c = 47 then some 47 else if c = 98 then some 8
  else if c = 102 then some 12 else if c = 110 then some 10 else if c = 114 then some 13 else if c = 116 then some 9 else none

/-- An escape that begins at a place: what it says, and where it ends. -/
def escape (s : Bytes) (i : Nat) : Res (Bytes × Nat) :=
  match (s[i+1]?).bind simple with
  | some x => .ok ([x], i + 2)
  | none => match unit s i with
    | none => .error (7, i)
    | some v =>
      if 0xD800 ≤ v ∧ v < 0xDC00 then
        match unit s (i + 6) with
        | none => .error (7, i)
        | some low => if 0xDC00 ≤ low ∧ low < 0xE000 then .ok (enc (0x10000 + (v - 0xD800) * 1024 + (low - 0xDC00)), i + 12) else .error (7, i)
      else if 0xD800 ≤ v ∧ v < 0xE000 then .error (7, i) else .ok (enc v, i + 6)

def cont (c : UInt8) : Bool := decide (128 ≤ c) && decide (c ≤ 191)
/-- How many bytes the rune has that a text begins with; 0: none. (A byte behind the end is read as 0, which goes on with no rune.) -/
def runeLenC (a : UInt8) (l : Bytes) : Nat :=
  if a < 128 then 1
  else if 194 ≤ a ∧ a ≤ 223 then (if cont (l.getD 0 0) = true then 2 else 0)
  else if 224 ≤ a ∧ a ≤ 239 then (if cont (l.getD 0 0) = true ∧ cont (l.getD 1 0) = true ∧ (a = 224 → 160 ≤ l.getD 0 0) ∧ (a = 237 → l.getD 0 0 ≤ 159) then 3 else 0)
  else if 240 ≤ a ∧ a ≤ 244 then (if cont (l.getD 0 0) = true ∧ cont (l.getD 1 0) = true ∧ cont (l.getD 2 0) = true ∧ (a = 240 → 144 ≤ l.getD 0 0) ∧ (a = 244 → l.getD 0 0 ≤ 143) then 4 else 0)
  else 0
def runeLen : Bytes → Nat
  | [] => 0
  | a :: l => runeLenC a l

/-- Is a text valid? -/
def validN : Nat → Bytes → Bool
  | _, [] => true
  | 0, _ => false
  | n + 1, l => decide (runeLen l ≠ 0) && validN n (l.drop (runeLen l))
def valid (l : Bytes) : Bool := validN l.length l

/-- A text, behind its quote: what it says, and the place behind its end. -/
def textN (s : Bytes) : Nat → Nat → Bytes → Res (Bytes × Nat)
  | 0, i, _ => .error (7, i)
  | n + 1, i, acc =>
    if peek s i < 32 then .error (7, i)
    else if peek s i = 34 then .ok (acc, i + 1)
    else if peek s i = 92 then
      match escape s i with
      | .error e => .error e
      | .ok (b, j) => textN s n j (acc ++ b)
    else if runeLen (s.drop i) = 0 then .error (17, i)
    else textN s n (i + runeLen (s.drop i)) (acc ++ (s.drop i).take (runeLen (s.drop i)))
def text (s : Bytes) (i : Nat) : Res (Bytes × Nat) :=
  if peek s i = 34 then textN s (s.length - i) (i + 1) [] else .error (7, i)

/-- Past the bytes of a word that must stand there. -/
def word (s : Bytes) : Bytes → Nat → Res Nat
  | [], i => .ok i
  | c :: w, i => if peek s i = c then word s w (i + 1) else .error (7, i)

/-- A name, and the colon behind it. -/
def name (s : Bytes) (l : List Bytes) (i : Nat) : Res (Bytes × Nat) :=
  match text s (skipB s i) with
  | .error e => .error e
  | .ok (t, j) =>
    if t ∈ l then .error (11, skipB s i)
    else match word s [58] (skipB s j) with
      | .error e => .error e
      | .ok k => .ok (t, k)

def starts (c : UInt8) : Bool := decide (c ∈ [110, 116, 102, 34, 91, 123, 45, 48, 49, 50, 51, 52, 53, 54, 55, 56, 57])

/-- The parts of a list or an object. -/
def parts (val : Nat → Nat → Res (J × Nat × Nat)) (s : Bytes) (obj : Bool) : Nat → Nat → Nat → List Bytes → List J → Res (J × Nat × Nat)
  | 0, i, _, _, _ => .error (7, i)
  | n + 1, i, m, names, kids =>
    match (if obj then name s names i else .ok ([], i)) with
    | .error e => .error e
    | .ok (t, i1) =>
      match val i1 m with
      | .error e => .error e
      | .ok (k, i2, m2) =>
        if peek s (skipB s i2) = 44 then parts val s obj n (skipB s i2 + 1) m2 (if obj then names ++ [t] else names) (kids ++ [k])
        else match word s [if obj then 125 else 93] (skipB s i2) with
          | .error e => .error e
          | .ok j => .ok (.mk (if obj then 6 else 5) false [] (if obj then names ++ [t] else names) (kids ++ [k]), j, m2)

def group (val : Nat → Nat → Res (J × Nat × Nat)) (s : Bytes) (obj : Bool) (i m : Nat) : Res (J × Nat × Nat) :=
  if peek s (skipB s (i + 1)) = (if obj then 125 else 93) then .ok (.mk (if obj then 6 else 5) false [] [] [], skipB s (i + 1) + 1, m)
  else parts val s obj (s.length + 1) (skipB s (i + 1)) m [] []

/-- A value, within so many lists and objects: what it is, the place behind it, how many values began. The first number: fuel. -/
def value (s : Bytes) : Nat → Nat → Nat → Nat → Res (J × Nat × Nat)
  | 0, _, i, _ => .error (7, i)
  | n + 1, deep, i, m =>
    let j := skipB s i
    let c := peek s j
    if starts c = false then .error (7, j)
    else if 5000 ≤ m then .error (6, j)
    else if c = 110 then match word s [110, 117, 108, 108] j with
      | .error e => .error e
      | .ok k => .ok (.mk 1 false [] [] [], k, m + 1)
    else if c = 116 then match word s [116, 114, 117, 101] j with
      | .error e => .error e
      | .ok k => .ok (.mk 2 true [] [] [], k, m + 1)
    else if c = 102 then match word s [102, 97, 108, 115, 101] j with
      | .error e => .error e
      | .ok k => .ok (.mk 2 false [] [] [], k, m + 1)
    else if c = 34 then match text s j with
      | .error e => .error e
      | .ok (t, k) => .ok (.mk 4 false t [] [], k, m + 1)
    else if c = 91 ∨ c = 123 then
      if deep = 20 then .error (16, j) else group (fun i m => value s n (deep + 1) i m) s (c = 123) j (m + 1)
    else match number s j with
      | .error e => .error e
      | .ok k => .ok (.mk 3 false ((s.drop j).take (k - j)) [] [], k, m + 1)

def parse (s : Bytes) : Res J :=
  if 100000 < s.length then .error (5, 0)
  else match value s (s.length + 1) 0 0 0 with
    | .error e => .error e
    | .ok (v, i, _) => if skipB s i < s.length then .error (7, skipB s i) else .ok v

end Cx
namespace Cx

def lowHex (n : UInt8) : UInt8 := if n < 10 then 48 + n else 87 + n

/-- A byte of a text, as it is written. -/
def escB (c : UInt8) : Bytes :=
  if c = 34 then [92, 34] else if c = 92 then [92, 92] else if c = 8 then [92, 98] else if c = 12 then [92, 102]
  else if c = 10 then [92, 110] else if c = 13 then [92, 114] else if c = 9 then [92, 116]
  else if c < 32 then [92, 117, 48, 48, lowHex (c >>> 4), lowHex (c &&& 15)] else [c]
def esc (t : Bytes) : Bytes := t.flatMap escB
def jtext (t : Bytes) : Bytes := 34 :: (esc t ++ [34])

mutual
/-- A right value, as it is written. -/
def pr : J → Bytes
  | .mk k is t ns ks =>
    if k = 1 then [110, 117, 108, 108]
    else if k = 2 then (if is then [116, 114, 117, 101] else [102, 97, 108, 115, 101])
    else if k = 3 then t
    else if k = 4 then jtext t
    else if k = 6 then 123 :: (prK true true ns ks ++ [125])
    else 91 :: (prK false true ns ks ++ [93])
/-- The parts of a list or an object, from one on; is it the first? -/
def prK (obj : Bool) : Bool → List Bytes → List J → Bytes
  | _, _, [] => []
  | first, ns, k :: ks => (if first then [] else [44]) ++ ((if obj then jtext (ns.headD []) ++ [58] else []) ++ (pr k ++ prK obj false ns.tail ks))
end

mutual
/-- How many nodes a value has. -/
def nodes : J → Nat
  | .mk _ _ _ _ ks => 1 + nodesK ks
def nodesK : List J → Nat
  | [] => 0
  | k :: ks => nodes k + nodesK ks
end

def isNum (t : Bytes) : Prop := number t 0 = .ok t.length
instance (t : Bytes) : Decidable (isNum t) := by
  unfold isNum
  cases h : number t 0 with
  | error e => exact isFalse (by simp)
  | ok n => exact if e : n = t.length then isTrue (by rw [e]) else isFalse (by simpa using e)

/-- Are all valid, and each another one? -/
def namesOk : List Bytes → List Bytes → Bool
  | _, [] => true
  | old, s :: l => valid s && !decide (s ∈ old) && namesOk (old ++ [s]) l

mutual
/-- Is a value right, within so many lists and objects? -/
def right : Nat → J → Bool
  | d, .mk k is t ns ks =>
    if k = 1 then !is && decide (t = []) && decide (ns = []) && ks.isEmpty
    else if k = 2 then decide (t = []) && decide (ns = []) && ks.isEmpty
    else if k = 3 then !is && decide (ns = []) && ks.isEmpty && decide (isNum t)
    else if k = 4 then !is && decide (ns = []) && ks.isEmpty && valid t
    else if k = 5 then decide (ns = []) && decide (t = []) && !is && decide (d < 20) && rightK (d + 1) ks
    else if k = 6 then decide (ns.length = ks.length) && namesOk [] ns && decide (t = []) && !is && decide (d < 20) && rightK (d + 1) ks
    else false
def rightK : Nat → List J → Bool
  | _, [] => true
  | d, k :: ks => right d k && rightK d ks
end

def Right (v : J) : Bool := decide (nodes v ≤ 5000) && right 0 v
def print (v : J) : Bytes := if Right v then pr v else []

/-- The empty value. -/
def nil : J := .mk 0 false [] [] []

end Cx
namespace Cx

theorem peek_drop {s : Bytes} {i : Nat} {c : UInt8} {r : Bytes} (h : s.drop i = c :: r) : peek s i = c := by
  have : s[i]? = some c := by rw [← List.head?_drop, h]; rfl
  simp [peek, List.getD, this]
theorem drop_succ {s : Bytes} {i : Nat} {c : UInt8} {r : Bytes} (h : s.drop i = c :: r) : s.drop (i + 1) = r := by
  have : s.drop (i + 1) = (s.drop i).drop 1 := by rw [List.drop_drop]
  rw [this, h]; rfl
theorem drop_add {s : Bytes} {i : Nat} {x r : Bytes} (h : s.drop i = x ++ r) : s.drop (i + x.length) = r := by
  have : s.drop (i + x.length) = (s.drop i).drop x.length := by rw [List.drop_drop]
  rw [this, h]; simp
theorem peek_end {s : Bytes} {i : Nat} (h : s.length ≤ i) : peek s i = 0 := by
  simp [peek, List.getD, List.getElem?_eq_none h]
theorem peek_lt {s : Bytes} {i : Nat} (h : peek s i ≠ 0) : i < s.length := by
  rcases Nat.lt_or_ge i s.length with g | g
  · exact g
  · exact absurd (peek_end g) h
theorem drop_peek {s : Bytes} {i : Nat} (h : i < s.length) : s.drop i = peek s i :: s.drop (i + 1) := by
  rw [List.drop_eq_getElem_cons h]
  simp [peek, List.getD, List.getElem?_eq_getElem h]

theorem skipB_le {s : Bytes} {i : Nat} : i ≤ skipB s i := Nat.le_add_right _ _
theorem skipD_le {s : Bytes} {i : Nat} : i ≤ skipD s i := Nat.le_add_right _ _
theorem takeWhile_length_le {p : UInt8 → Bool} (l : Bytes) : (l.takeWhile p).length ≤ l.length := by
  induction l with
  | nil => simp
  | cons a l ih => simp only [List.takeWhile_cons]; split <;> simp; omega
theorem skipB_len {s : Bytes} {i : Nat} (h : i ≤ s.length) : skipB s i ≤ s.length := by
  have := takeWhile_length_le (p := isBlank) (s.drop i)
  simp [skipB] at *; omega
theorem skipD_len {s : Bytes} {i : Nat} (h : i ≤ s.length) : skipD s i ≤ s.length := by
  have := takeWhile_length_le (p := isDig) (s.drop i)
  simp [skipD] at *; omega
theorem skipB_step {s : Bytes} {i : Nat} (h : i < s.length) (hb : isBlank (peek s i) = true) : skipB s i = skipB s (i + 1) := by
  unfold skipB
  rw [drop_peek h, List.takeWhile_cons, if_pos hb]
  simp only [List.length_cons]; omega
theorem skipB_stop {s : Bytes} {i : Nat} (hb : isBlank (peek s i) = false) : skipB s i = i := by
  unfold skipB
  rcases Nat.lt_or_ge i s.length with h | h
  · rw [drop_peek h, List.takeWhile_cons, if_neg (by simp [hb])]; rfl
  · rw [List.drop_of_length_le h]; rfl
theorem skipD_step {s : Bytes} {i : Nat} (h : i < s.length) (hb : isDig (peek s i) = true) : skipD s i = skipD s (i + 1) := by
  unfold skipD
  rw [drop_peek h, List.takeWhile_cons, if_pos hb]
  simp only [List.length_cons]; omega
theorem skipD_stop {s : Bytes} {i : Nat} (hb : isDig (peek s i) = false) : skipD s i = i := by
  unfold skipD
  rcases Nat.lt_or_ge i s.length with h | h
  · rw [drop_peek h, List.takeWhile_cons, if_neg (by simp [hb])]; rfl
  · rw [List.drop_of_length_le h]; rfl
/-- Past a row of blanks. -/
theorem skipB_over {s : Bytes} {i : Nat} {w r : Bytes} (h : s.drop i = w ++ r) (hw : ∀ c ∈ w, isBlank c = true) (hr : isBlank (r.headD 0) = false) : skipB s i = i + w.length := by
  unfold skipB
  rw [h]
  have e : (w ++ r).takeWhile isBlank = w := by
    rw [List.takeWhile_append_of_pos hw]
    cases r with
    | nil => simp
    | cons c r => simp [show isBlank c = false from hr]
  rw [e]
theorem isBlank_ne {c : UInt8} (h : isBlank c = true) : c = 32 ∨ c = 9 ∨ c = 10 ∨ c = 13 := by
  simp only [isBlank, Bool.or_eq_true, beq_iff_eq] at h
  rcases h with ((h | h) | h) | h <;> simp [h]

end Cx
namespace Cx

theorem skipD_dig {s : Bytes} (i : Nat) : ∀ k, i ≤ k → k < skipD s i → isDig (peek s k) = true := by
  intro k h1 h2
  rcases Nat.lt_or_ge i s.length with hi | hi
  · by_cases hd : isDig (peek s i) = true
    · by_cases hk : k = i
      · rw [hk]; exact hd
      · have hs := skipD_step hi hd
        rw [hs] at h2
        exact skipD_dig (i + 1) k (by omega) h2
    · have := skipD_stop (s := s) (i := i) (by simpa using hd); omega
  · have := skipD_stop (s := s) (i := i) (by rw [peek_end hi]; rfl); omega
termination_by s.length - i

theorem skipD_end {s : Bytes} (i : Nat) : isDig (peek s (skipD s i)) = false := by
  rcases Nat.lt_or_ge i s.length with hi | hi
  · by_cases hd : isDig (peek s i) = true
    · rw [skipD_step hi hd]; exact skipD_end (i + 1)
    · rw [skipD_stop (by simpa using hd)]; simpa using hd
  · rw [skipD_stop (by rw [peek_end hi]; rfl), peek_end hi]; rfl
termination_by s.length - i

theorem skipD_unique {s : Bytes} {i j : Nat} (hij : i ≤ j) (h : ∀ k, i ≤ k → k < j → isDig (peek s k) = true) (he : isDig (peek s j) = false) : skipD s i = j := by
  have h1 := skipD_end (s := s) i
  have h2 := skipD_dig (s := s) i
  have h3 := skipD_le (s := s) (i := i)
  rcases Nat.lt_trichotomy (skipD s i) j with g | g | g
  · rw [h _ h3 g] at h1; cases h1
  · exact g
  · rw [h2 _ hij g] at he; cases he

theorem digits_ok {s : Bytes} {i j : Nat} (h : digits s i = .ok j) : j = skipD s i ∧ i < j := by
  unfold digits at h
  split at h
  · cases h
  · have := skipD_le (s := s) (i := i)
    injection h with h; subst h; omega
theorem digits_err {s : Bytes} {i : Nat} {e : Nat × Nat} (h : digits s i = .error e) : e = (7, i) := by
  unfold digits at h
  split at h
  · injection h with h; exact h.symm
  · cases h
theorem digits_len {s : Bytes} {i j : Nat} (h : digits s i = .ok j) : j ≤ s.length := by
  obtain ⟨rfl, h1⟩ := digits_ok h
  rcases Nat.lt_or_ge i s.length with g | g
  · exact skipD_len (by omega)
  · rw [skipD_stop (by rw [peek_end g]; rfl)] at h1; omega

theorem opt_le {s l : Bytes} {i : Nat} : i ≤ opt s l i ∧ opt s l i ≤ i + 1 := by unfold opt; split <;> omega
theorem opt_len {s l : Bytes} {i : Nat} (hl : (0 : UInt8) ∉ l) (h : i ≤ s.length) : opt s l i ≤ s.length := by
  unfold opt
  split
  · rename_i g
    have : peek s i ≠ 0 := fun e => hl (e ▸ g)
    have := peek_lt this; omega
  · exact h

/-- May a byte stand behind a number? -/
def ends (c : UInt8) : Prop := isDig c = false ∧ c ∉ ([45, 46, 101, 69, 43] : Bytes)

/-- Two texts that are the same up to a place, where the second may end a number. -/
structure Same (l l' : Bytes) (n : Nat) : Prop where
  eq : ∀ k, k < n → peek l' k = peek l k
  fin : ends (peek l' n) ∨ peek l' n = peek l n

theorem digits_same {l l' : Bytes} {a b n : Nat} (h : digits l a = .ok b) (hb : b ≤ n) (hs : Same l l' n) : digits l' a = .ok b := by
  obtain ⟨rfl, hlt⟩ := digits_ok h
  have e : skipD l' a = skipD l a := by
    refine skipD_unique (by omega) (fun k h1 h2 => ?_) ?_
    · rw [hs.eq k (by omega)]; exact skipD_dig a k h1 h2
    · rcases Nat.lt_or_ge (skipD l a) n with g | g
      · rw [hs.eq _ g]; exact skipD_end a
      · have hn : skipD l a = n := by omega
        rcases hs.fin with h | h
        · rw [hn]; exact h.1
        · rw [hn, h, ← hn]; exact skipD_end a
  unfold digits
  rw [e, if_neg (by omega)]

theorem opt_same_in {l l' cs : Bytes} {a n : Nat} (h : opt l cs a = a + 1) (ha : a < n) (hs : Same l l' n) : opt l' cs a = a + 1 := by
  unfold opt at *
  split at h
  · rename_i g; rw [if_pos (by rw [hs.eq a ha]; exact g)]
  · omega
theorem opt_same_out {l l' cs : Bytes} {a n : Nat} (h : opt l cs a = a) (ha : a ≤ n) (hs : Same l l' n) (hc : ∀ c ∈ cs, ¬ ends c) : opt l' cs a = a := by
  unfold opt at *
  split at h
  · omega
  · rename_i g
    rw [if_neg]
    rcases Nat.lt_or_ge a n with h' | h'
    · rw [hs.eq a h']; exact g
    · have : a = n := by omega
      subst this
      rcases hs.fin with h | h
      · exact fun k => hc _ k h
      · rw [h]; exact g
theorem opt_cases {s l : Bytes} {i : Nat} : opt s l i = i ∨ opt s l i = i + 1 := by unfold opt; split <;> simp

theorem ends_minus : ∀ c ∈ ([45] : Bytes), ¬ ends c := by intro c h; simp at h; subst h; simp [ends]
theorem ends_zero : ∀ c ∈ ([48] : Bytes), ¬ ends c := by intro c h; simp at h; subst h; simp [ends, isDig]
theorem ends_dot : ∀ c ∈ ([46] : Bytes), ¬ ends c := by intro c h; simp at h; subst h; simp [ends]
theorem ends_e : ∀ c ∈ ([101, 69] : Bytes), ¬ ends c := by intro c h; simp at h; rcases h with rfl | rfl <;> simp [ends]
theorem ends_sign : ∀ c ∈ ([43, 45] : Bytes), ¬ ends c := by intro c h; simp at h; rcases h with rfl | rfl <;> simp [ends]

theorem numInt_same {l l' : Bytes} {a b n : Nat} (h : numInt l a = .ok b) (hb : b ≤ n) (hs : Same l l' n) : numInt l' a = .ok b := by
  unfold numInt at *
  rcases opt_cases (s := l) (l := [48]) (i := a) with e | e
  · rw [if_pos e] at h
    have hlt := (digits_ok h).2
    rw [if_pos (opt_same_out e (by omega) hs ends_zero)]
    exact digits_same h hb hs
  · rw [if_neg (by omega)] at h
    injection h with h; subst h
    rw [if_neg (by rw [opt_same_in e (by omega) hs]; omega)]
theorem numFrac_same {l l' : Bytes} {a b n : Nat} (h : numFrac l a = .ok b) (hb : b ≤ n) (hs : Same l l' n) : numFrac l' a = .ok b := by
  unfold numFrac at *
  rcases opt_cases (s := l) (l := [46]) (i := a) with e | e
  · rw [if_pos e] at h
    injection h with h; subst h
    rw [if_pos (opt_same_out e hb hs ends_dot)]
  · rw [if_neg (by omega)] at h
    have hlt := (digits_ok h).2
    rw [if_neg (by rw [opt_same_in e (by omega) hs]; omega)]
    exact digits_same h hb hs
theorem numExp_same {l l' : Bytes} {a b n : Nat} (h : numExp l a = .ok b) (hb : b ≤ n) (hs : Same l l' n) : numExp l' a = .ok b := by
  unfold numExp at *
  rcases opt_cases (s := l) (l := [101, 69]) (i := a) with e | e
  · rw [if_pos e] at h
    injection h with h; subst h
    rw [if_pos (opt_same_out e hb hs ends_e)]
  · rw [if_neg (by omega)] at h
    have hlt := (digits_ok h).2
    have hle := (opt_le (s := l) (l := [43, 45]) (i := a + 1)).1
    rw [if_neg (by rw [opt_same_in e (by omega) hs]; omega)]
    have e2 : opt l' [43, 45] (a + 1) = opt l [43, 45] (a + 1) := by
      rcases opt_cases (s := l) (l := [43, 45]) (i := a + 1) with g | g
      · rw [g, opt_same_out g (by omega) hs ends_sign]
      · rw [g, opt_same_in g (by omega) hs]
    rw [e2]
    exact digits_same h hb hs

theorem numInt_ok {s : Bytes} {a b : Nat} (h : numInt s a = .ok b) : a < b ∧ b ≤ s.length := by
  unfold numInt at h
  split at h
  · exact ⟨(digits_ok h).2, digits_len h⟩
  · rename_i g
    injection h with h; subst h
    have g : peek s a ∈ ([48] : Bytes) := by
      unfold opt at g; split at g
      · assumption
      · omega
    have : peek s a ≠ 0 := by simp at g; rw [g]; decide
    have := peek_lt this; omega
theorem numFrac_ok {s : Bytes} {a b : Nat} (ha : a ≤ s.length) (h : numFrac s a = .ok b) : a ≤ b ∧ b ≤ s.length := by
  unfold numFrac at h
  split at h
  · injection h with h; subst h; omega
  · have := (digits_ok h).2; have := digits_len h; omega
theorem numExp_ok {s : Bytes} {a b : Nat} (ha : a ≤ s.length) (h : numExp s a = .ok b) : a ≤ b ∧ b ≤ s.length := by
  unfold numExp at h
  split at h
  · injection h with h; subst h; omega
  · have := (digits_ok h).2; have := digits_len h
    have hle := (opt_le (s := s) (l := [43, 45]) (i := a + 1)).1
    omega

theorem number_ok {s : Bytes} {i j : Nat} (h : number s i = .ok j) : i < j ∧ j ≤ s.length ∧ j - i ≤ 40 := by
  unfold number at h
  split at h
  · cases h
  · rename_i a ha
    split at h
    · cases h
    · rename_i b hb
      split at h
      · cases h
      · rename_i c hc
        split at h
        · cases h
        · injection h with h; subst h
          have h0 := (opt_le (s := s) (l := [45]) (i := i)).1
          have h1 := numInt_ok ha
          have h2 := numFrac_ok h1.2 hb
          have h3 := numExp_ok h2.2 hc
          omega

theorem number_same {l l' : Bytes} {n : Nat} (h : number l 0 = .ok n) (hs : Same l l' n) : number l' 0 = .ok n := by
  unfold number at h ⊢
  split at h
  · cases h
  · rename_i a ha
    split at h
    · cases h
    · rename_i b hb
      split at h
      · cases h
      · rename_i c hc
        split at h
        · cases h
        · rename_i hlen
          injection h with h; subst h
          have h0 := (opt_le (s := l) (l := [45]) (i := 0)).1
          have h1 := numInt_ok ha
          have h2 := numFrac_ok h1.2 hb
          have h3 := numExp_ok h2.2 hc
          have e0 : opt l' [45] 0 = opt l [45] 0 := by
            rcases opt_cases (s := l) (l := [45]) (i := 0) with g | g
            · rw [g, opt_same_out g (by omega) hs ends_minus]
            · rw [g, opt_same_in g (by omega) hs]
          rw [e0, numInt_same ha (by omega) hs]
          simp only
          rw [numFrac_same hb (by omega) hs]
          simp only
          rw [numExp_same hc (by omega) hs]
          simp only
          rw [if_neg hlen]

/-! ### A number at a place is a number at the head of what is left. -/
theorem peek_add {s : Bytes} (i k : Nat) : peek s (i + k) = peek (s.drop i) k := by simp [peek, List.getD]
theorem skipD_add {s : Bytes} (i k : Nat) : skipD s (i + k) = i + skipD (s.drop i) k := by simp [skipD]; omega
def sh (i : Nat) : Res Nat → Res Nat
  | .ok j => .ok (i + j)
  | .error (e, p) => .error (e, i + p)
theorem digits_add {s : Bytes} (i k : Nat) : digits s (i + k) = sh i (digits (s.drop i) k) := by
  unfold digits
  rw [skipD_add]
  by_cases h : skipD (s.drop i) k = k
  · rw [if_pos h, if_pos (by omega)]; rfl
  · rw [if_neg h, if_neg (by omega)]; rfl
theorem opt_add {s l : Bytes} (i k : Nat) : opt s l (i + k) = i + opt (s.drop i) l k := by
  unfold opt; rw [peek_add]; split <;> omega
theorem numInt_add {s : Bytes} (i k : Nat) : numInt s (i + k) = sh i (numInt (s.drop i) k) := by
  unfold numInt
  rw [opt_add]
  by_cases h : opt (s.drop i) [48] k = k
  · rw [if_pos h, if_pos (by omega), digits_add]
  · rw [if_neg h, if_neg (by omega)]; rfl
theorem numFrac_add {s : Bytes} (i k : Nat) : numFrac s (i + k) = sh i (numFrac (s.drop i) k) := by
  unfold numFrac
  rw [opt_add]
  by_cases h : opt (s.drop i) [46] k = k
  · rw [if_pos h, if_pos (by omega)]; rfl
  · rw [if_neg h, if_neg (by omega), Nat.add_assoc, digits_add]
theorem numExp_add {s : Bytes} (i k : Nat) : numExp s (i + k) = sh i (numExp (s.drop i) k) := by
  unfold numExp
  rw [opt_add]
  by_cases h : opt (s.drop i) [101, 69] k = k
  · rw [if_pos h, if_pos (by omega)]; rfl
  · rw [if_neg h, if_neg (by omega), Nat.add_assoc, opt_add, digits_add]
theorem number_add {s : Bytes} (i : Nat) : number s i = sh i (number (s.drop i) 0) := by
  unfold number
  have e0 := opt_add (s := s) (l := [45]) i 0
  rw [Nat.add_zero] at e0
  rw [e0, numInt_add]
  cases h1 : numInt (s.drop i) (opt (s.drop i) [45] 0) with
  | error e => obtain ⟨a, b⟩ := e; simp [sh]
  | ok a =>
    simp only [sh]
    rw [numFrac_add]
    cases h2 : numFrac (s.drop i) a with
    | error e => obtain ⟨a, b⟩ := e; simp [sh]
    | ok b =>
      simp only [sh]
      rw [numExp_add]
      cases h3 : numExp (s.drop i) b with
      | error e => obtain ⟨a, b⟩ := e; simp [sh]
      | ok c =>
        simp only [sh]
        by_cases h : c - 0 > 40
        · rw [if_pos h, if_pos (by omega)]; rfl
        · rw [if_neg h, if_neg (by omega)]

/-- The text of a number that was read is a number. -/
theorem isNum_of_number {s : Bytes} {i j : Nat} (h : number s i = .ok j) : isNum ((s.drop i).take (j - i)) := by
  have hk := number_ok h
  rw [number_add] at h
  cases h0 : number (s.drop i) 0 with
  | error e => rw [h0] at h; obtain ⟨a, b⟩ := e; cases h
  | ok n =>
    rw [h0] at h
    injection h with h
    have hn : j - i = n := by omega
    have hl : (List.take n (s.drop i)).length = n := by simp; omega
    unfold isNum
    rw [hn, hl]
    refine number_same h0 ⟨fun k hk => ?_, ?_⟩
    · simp [peek, List.getD, hk]
    · left; rw [peek_end (by omega)]; simp [ends, isDig]
/-- A number, and behind it what may end it, is read. -/
theorem number_of_isNum {s t r : Bytes} {i : Nat} (h : isNum t) (hs : s.drop i = t ++ r) (hr : ends (r.headD 0)) : number s i = .ok (i + t.length) := by
  rw [number_add, hs]
  have : number (t ++ r) 0 = .ok t.length := by
    refine number_same h ⟨fun k hk => ?_, ?_⟩
    · simp [peek, List.getD, List.getElem?_append_left hk]
    · have : peek (t ++ r) t.length = r.headD 0 := by
        cases r <;> simp [peek, List.getD]
      left; rw [this]; exact hr
  rw [this]; rfl
theorem isNum_ne {t : Bytes} (h : isNum t) : t ≠ [] := by
  intro e; subst e
  have := number_ok h; simp at this
/-- What a number begins with. -/
theorem isNum_head {t : Bytes} (h : isNum t) : peek t 0 = 45 ∨ isDig (peek t 0) = true := by
  by_cases hm : peek t 0 = 45
  · exact .inl hm
  · right
    unfold isNum number at h
    have e0 : opt t [45] 0 = 0 := by unfold opt; rw [if_neg (by simp [hm])]
    rw [e0] at h
    split at h
    · cases h
    · rename_i a ha
      unfold numInt at ha
      split at ha
      · have hk := digits_ok ha
        exact skipD_dig 0 0 (by omega) (by omega)
      · rename_i g
        have g : peek t 0 ∈ ([48] : Bytes) := by
          unfold opt at g; split at g
          · assumption
          · omega
        simp at g; rw [g]; rfl
theorem number_err {s : Bytes} {i : Nat} {e : Nat × Nat} (hi : i ≤ s.length) (h : number s i = .error e) : e.2 ≤ s.length := by
  have hd : ∀ {k e}, k ≤ s.length → digits s k = .error e → e.2 ≤ s.length := fun hk h => by rw [digits_err h]; exact hk
  have hop : opt s [45] i ≤ s.length := opt_len (by decide) hi
  unfold number at h
  split at h
  · rename_i e' ha
    injection h with h; subst h
    unfold numInt at ha; split at ha
    · exact hd hop ha
    · cases ha
  · rename_i a ha
    have h1 := numInt_ok ha
    split at h
    · rename_i e' hb
      injection h with h; subst h
      unfold numFrac at hb; split at hb
      · cases hb
      · rename_i g
        have := opt_len (s := s) (l := [46]) (i := a) (by decide) h1.2
        have := (opt_le (s := s) (l := [46]) (i := a))
        exact hd (by omega) hb
    · rename_i b hb
      have h2 := numFrac_ok h1.2 hb
      split at h
      · rename_i e' hc
        injection h with h; subst h
        unfold numExp at hc; split at hc
        · cases hc
        · rename_i g
          have := opt_len (s := s) (l := [101, 69]) (i := b) (by decide) h2.2
          have := (opt_le (s := s) (l := [101, 69]) (i := b))
          exact hd (opt_len (by decide) (by omega)) hc
      · split at h
        · injection h with h; subst h; exact hi
        · cases h
end Cx
namespace Cx

/-! ### Runes -/
theorem cont_len {l : Bytes} {k : Nat} (h : cont (l.getD k 0) = true) : k < l.length := by
  rcases Nat.lt_or_ge k l.length with g | g
  · exact g
  · rw [List.getD_eq_getElem?_getD, List.getElem?_eq_none g] at h; cases h
theorem cont_ge {c : UInt8} (h : cont c = true) : 128 ≤ c := by simp [cont] at h; exact h.1
/-- What a rune's length says, by cases. -/
theorem runeLen_cases (a : UInt8) (l : Bytes) :
    (a < 128 ∧ runeLen (a :: l) = 1) ∨ (¬ a < 128 ∧ (194 ≤ a ∧ a ≤ 223) ∧ cont (l.getD 0 0) = true ∧ runeLen (a :: l) = 2) ∨
    (¬ a < 128 ∧ ¬ (194 ≤ a ∧ a ≤ 223) ∧ (224 ≤ a ∧ a ≤ 239) ∧ (cont (l.getD 0 0) = true ∧ cont (l.getD 1 0) = true ∧ (a = 224 → 160 ≤ l.getD 0 0) ∧ (a = 237 → l.getD 0 0 ≤ 159)) ∧ runeLen (a :: l) = 3) ∨
    (¬ a < 128 ∧ ¬ (194 ≤ a ∧ a ≤ 223) ∧ ¬ (224 ≤ a ∧ a ≤ 239) ∧ (240 ≤ a ∧ a ≤ 244) ∧ (cont (l.getD 0 0) = true ∧ cont (l.getD 1 0) = true ∧ cont (l.getD 2 0) = true ∧ (a = 240 → 144 ≤ l.getD 0 0) ∧ (a = 244 → l.getD 0 0 ≤ 143)) ∧ runeLen (a :: l) = 4) ∨
    runeLen (a :: l) = 0 := by
  show _ ∨ _ ∨ _ ∨ _ ∨ _
  simp only [runeLen]
  unfold runeLenC
  by_cases h1 : a < 128
  · exact .inl ⟨h1, if_pos h1⟩
  · rw [if_neg h1]
    by_cases h2 : 194 ≤ a ∧ a ≤ 223
    · rw [if_pos h2]
      by_cases h : cont (l.getD 0 0) = true
      · exact .inr (.inl ⟨h1, h2, h, if_pos h⟩)
      · exact .inr (.inr (.inr (.inr (if_neg h))))
    · rw [if_neg h2]
      by_cases h3 : 224 ≤ a ∧ a ≤ 239
      · rw [if_pos h3]
        by_cases h : cont (l.getD 0 0) = true ∧ cont (l.getD 1 0) = true ∧ (a = 224 → 160 ≤ l.getD 0 0) ∧ (a = 237 → l.getD 0 0 ≤ 159)
        · exact .inr (.inr (.inl ⟨h1, h2, h3, h, if_pos h⟩))
        · exact .inr (.inr (.inr (.inr (if_neg h))))
      · rw [if_neg h3]
        by_cases h4 : 240 ≤ a ∧ a ≤ 244
        · rw [if_pos h4]
          by_cases h : cont (l.getD 0 0) = true ∧ cont (l.getD 1 0) = true ∧ cont (l.getD 2 0) = true ∧ (a = 240 → 144 ≤ l.getD 0 0) ∧ (a = 244 → l.getD 0 0 ≤ 143)
          · exact .inr (.inr (.inr (.inl ⟨h1, h2, h3, h4, h, if_pos h⟩)))
          · exact .inr (.inr (.inr (.inr (if_neg h))))
        · rw [if_neg h4]; exact .inr (.inr (.inr (.inr rfl)))
theorem runeLen_le (l : Bytes) : runeLen l ≤ l.length ∧ runeLen l ≤ 4 := by
  cases l with
  | nil => simp [runeLen]
  | cons a l =>
    rcases runeLen_cases a l with ⟨_, e⟩ | ⟨_, _, h, e⟩ | ⟨_, _, _, h, e⟩ | ⟨_, _, _, _, h, e⟩ | e <;> rw [e] <;> simp only [List.length_cons]
    · omega
    · have := cont_len h; omega
    · have := cont_len h.2.1; omega
    · have := cont_len h.2.2.1; omega
    · omega
theorem runeLen_take (l r : Bytes) (h : runeLen l ≠ 0) : runeLen (l.take (runeLen l) ++ r) = runeLen l := by
  cases l with
  | nil => exact absurd rfl h
  | cons a l =>
    have gd : ∀ m k, k < m → m ≤ l.length → (l.take m ++ r).getD k 0 = l.getD k 0 := fun m k hk hm => by
      simp only [List.getD_eq_getElem?_getD]
      rw [List.getElem?_append_left (by simp; omega), List.getElem?_take, if_pos hk]
    rcases runeLen_cases a l with ⟨h1, e⟩ | ⟨h1, h2, hh, e⟩ | ⟨h1, h2, h3, hh, e⟩ | ⟨h1, h2, h3, h4, hh, e⟩ | e
    · rw [e]; show runeLenC a _ = 1; unfold runeLenC; rw [if_pos h1]
    · have := cont_len hh
      rw [e]; show runeLenC a (l.take 1 ++ r) = 2; unfold runeLenC; rw [if_neg h1, if_pos h2, gd 1 0 (by omega) (by omega), if_pos hh]
    · have := cont_len hh.2.1
      rw [e]; show runeLenC a (l.take 2 ++ r) = 3; unfold runeLenC; rw [if_neg h1, if_neg h2, if_pos h3, gd 2 0 (by omega) (by omega), gd 2 1 (by omega) (by omega), if_pos hh]
    · have := cont_len hh.2.2.1
      rw [e]; show runeLenC a (l.take 3 ++ r) = 4; unfold runeLenC; rw [if_neg h1, if_neg h2, if_neg h3, if_pos h4, gd 3 0 (by omega) (by omega), gd 3 1 (by omega) (by omega), gd 3 2 (by omega) (by omega), if_pos hh]
    · exact absurd e h
/-- Each byte of a rune of more than one is at least 128. -/
theorem runeLen_high (l : Bytes) (h : runeLen l ≠ 0) (h1 : ∀ c, l.head? = some c → ¬ c < 128) : ∀ c ∈ l.take (runeLen l), 128 ≤ c := by
  cases l with
  | nil => exact absurd rfl h
  | cons a l =>
    have ha : ¬ a < 128 := h1 a rfl
    have ha' : 128 ≤ a := UInt8.not_lt.mp ha
    have el : ∀ m, (∀ k, k < m → cont (l.getD k 0) = true) → ∀ c ∈ l.take m, 128 ≤ c := fun m hm c hc => by
      obtain ⟨k, hk, hk'⟩ := List.mem_iff_getElem.1 hc
      have hk2 : k < m ∧ k < l.length := by simp at hk; omega
      have := cont_ge (hm k hk2.1)
      rw [← hk', List.getElem_take]
      rw [List.getD_eq_getElem?_getD, List.getElem?_eq_getElem hk2.2] at this
      exact this
    rcases runeLen_cases a l with ⟨h1, e⟩ | ⟨h1, h2, hh, e⟩ | ⟨h1, h2, h3, hh, e⟩ | ⟨h1, h2, h3, h4, hh, e⟩ | e
    · exact absurd h1 ha
    · rw [e]; intro c hc; rcases List.mem_cons.1 hc with rfl | hc
      · exact ha'
      · exact el 1 (fun k hk => by have : k = 0 := by omega
                                   subst this; exact hh) c hc
    · rw [e]; intro c hc; rcases List.mem_cons.1 hc with rfl | hc
      · exact ha'
      · exact el 2 (fun k hk => by match k, hk with
                                   | 0, _ => exact hh.1
                                   | 1, _ => exact hh.2.1) c hc
    · rw [e]; intro c hc; rcases List.mem_cons.1 hc with rfl | hc
      · exact ha'
      · exact el 3 (fun k hk => by match k, hk with
                                   | 0, _ => exact hh.1
                                   | 1, _ => exact hh.2.1
                                   | 2, _ => exact hh.2.2.1) c hc
    · exact absurd e h

/-! ### Valid texts -/
theorem validN_more : ∀ (n : Nat) (l : Bytes) (m : Nat), l.length ≤ n → l.length ≤ m → validN n l = validN m l
  | 0, l, m, h, _ => by
    have : l = [] := List.length_eq_zero_iff.1 (by omega)
    subst this; cases m <;> rfl
  | n + 1, [], m, _, _ => by cases m <;> rfl
  | n + 1, a :: l, 0, _, h => by simp at h
  | n + 1, a :: l, m + 1, h, h' => by
    simp only [validN]
    by_cases hz : runeLen (a :: l) = 0
    · simp [hz]
    · have hlen : ((a :: l).drop (runeLen (a :: l))).length ≤ n ∧ ((a :: l).drop (runeLen (a :: l))).length ≤ m := by
        rw [List.length_drop]; omega
      rw [validN_more n _ m hlen.1 hlen.2]
theorem valid_nil : valid [] = true := rfl
theorem valid_cons {l : Bytes} (hl : l ≠ []) : valid l = (decide (runeLen l ≠ 0) && valid (l.drop (runeLen l))) := by
  cases l with
  | nil => exact absurd rfl hl
  | cons a l =>
    unfold valid
    simp only [List.length_cons, validN]
    by_cases hz : runeLen (a :: l) = 0
    · simp [hz]
    · have : ((a :: l).drop (runeLen (a :: l))).length ≤ l.length := by rw [List.length_drop, List.length_cons]; omega
      rw [validN_more l.length _ _ this (Nat.le_refl _)]
theorem valid_piece {l r : Bytes} (h : runeLen l ≠ 0) (hr : valid r = true) : valid (l.take (runeLen l) ++ r) = true := by
  have hk := runeLen_le l
  have hne : l.take (runeLen l) ++ r ≠ [] := by
    cases l with
    | nil => exact absurd rfl h
    | cons a l => cases hn : runeLen (a :: l) with
      | zero => exact absurd hn h
      | succ n => simp
  rw [valid_cons hne, runeLen_take l r h]
  have : (l.take (runeLen l) ++ r).drop (runeLen l) = r := by
    rw [List.drop_append, List.drop_of_length_le (by simp; omega)]
    simp [Nat.min_eq_left hk.1]
  rw [this, hr]; simp [h]
/-- By runes. -/
theorem valid_induct {P : Bytes → Prop} (h0 : P []) (h1 : ∀ l : Bytes, runeLen l ≠ 0 → valid (l.drop (runeLen l)) = true → P (l.drop (runeLen l)) → P l) : ∀ l, valid l = true → P l := by
  intro l
  generalize hn : l.length = n
  induction n using Nat.strongRecOn generalizing l with
  | _ n ih =>
    intro hv
    cases l with
    | nil => exact h0
    | cons a l =>
      rw [valid_cons (by simp)] at hv
      simp only [Bool.and_eq_true, decide_eq_true_eq] at hv
      refine h1 _ hv.1 hv.2 (ih _ ?_ _ rfl hv.2)
      rw [List.length_drop]; simp at hn ⊢; omega
theorem valid_append {a b : Bytes} (ha : valid a = true) (hb : valid b = true) : valid (a ++ b) = true := by
  refine valid_induct (P := fun a => valid (a ++ b) = true) (by simpa using hb) ?_ a ha
  intro l h hv ih
  have e : l ++ b = l.take (runeLen l) ++ (l.drop (runeLen l) ++ b) := by rw [← List.append_assoc, List.take_append_drop]
  show valid (l ++ b) = true
  rw [e]
  exact valid_piece h ih
theorem valid_one {c : UInt8} (h : c < 128) : valid [c] = true := by
  rw [valid_cons (by simp)]; simp [runeLen, runeLenC, h, valid_nil]
/-! ### Escapes -/
theorem hexv_lt {c : UInt8} {n : Nat} (h : hexv c = some n) : n < 16 := by
  unfold hexv at h
  split at h
  · injection h with h; omega
  · split at h
    · injection h with h; omega
    · split at h
      · injection h with h; omega
      · cases h
theorem hex4_lt {l : Bytes} {v : Nat} (h : hex4 l = some v) : v < 65536 := by
  unfold hex4 at h
  split at h
  · split at h
    · rename_i a b c d ha hb hc hd
      injection h with h
      have := hexv_lt ha; have := hexv_lt hb; have := hexv_lt hc; have := hexv_lt hd
      omega
    · cases h
  · cases h
theorem unit_ok {s : Bytes} {i v : Nat} (h : unit s i = some v) : i + 6 ≤ s.length ∧ v < 65536 := by
  unfold unit at h
  split at h
  · rename_i a b c d l hd
    refine ⟨?_, hex4_lt h⟩
    have := congrArg List.length hd
    simp at this; omega
  · cases h
theorem simple_lt {c x : UInt8} (h : simple c = some x) : x < 128 := by
  unfold simple at h
  repeat' (split at h)
  all_goals first | (injection h with h; subst h; decide) | cases h
theorem valid_enc {v : Nat} (h : v < 0x110000) (hs : ¬ (0xD800 ≤ v ∧ v < 0xE000)) : valid (enc v) = true := by
  have u : ∀ n : Nat, n < 256 → (UInt8.ofNat n).toNat = n := fun n hn => by simp; omega
  have lt : ∀ a b : UInt8, (a < b) = (a.toNat < b.toNat) := fun a b => by rw [UInt8.lt_iff_toNat_lt]
  have le : ∀ a b : UInt8, (a ≤ b) = (a.toNat ≤ b.toNat) := fun a b => by rw [UInt8.le_iff_toNat_le]
  unfold enc
  split
  · refine valid_one ?_
    rw [lt, u _ (by omega)]; simpa using by assumption
  · have cn : ∀ n : Nat, n < 64 → cont (UInt8.ofNat (0x80 + n)) = true := fun n hn => by
      simp only [cont, Bool.and_eq_true, decide_eq_true_eq, le, u (0x80 + n) (by omega)]
      constructor <;> simp <;> omega
    split
    · rw [valid_cons (by simp)]
      have e : runeLen [UInt8.ofNat (0xC0 + v / 64), UInt8.ofNat (0x80 + v % 64)] = 2 := by
        simp only [runeLen]; unfold runeLenC
        rw [if_neg (by rw [lt, u _ (by omega)]; simp; omega), if_pos ⟨by rw [le, u _ (by omega)]; simp only [UInt8.reduceToNat]; omega, by rw [le, u _ (by omega)]; simp only [UInt8.reduceToNat]; omega⟩]
        exact if_pos (cn _ (Nat.mod_lt _ (by decide : 64 > 0)))
      rw [e]; rfl
    · split
      · rw [valid_cons (by simp)]
        have e : runeLen [UInt8.ofNat (0xE0 + v / 4096), UInt8.ofNat (0x80 + v / 64 % 64), UInt8.ofNat (0x80 + v % 64)] = 3 := by
          simp only [runeLen]; unfold runeLenC
          rw [if_neg (by rw [lt, u _ (by omega)]; simp; omega), if_neg (by rw [le, le, u _ (by omega)]; simp; omega),
            if_pos ⟨by rw [le, u _ (by omega)]; simp only [UInt8.reduceToNat]; omega, by rw [le, u _ (by omega)]; simp only [UInt8.reduceToNat]; omega⟩]
          refine if_pos ⟨cn _ (Nat.mod_lt _ (by decide : 64 > 0)), cn _ (Nat.mod_lt _ (by decide : 64 > 0)), fun e => ?_, fun e => ?_⟩
          · have := congrArg UInt8.toNat e; rw [u _ (by omega)] at this; simp at this
            show 160 ≤ UInt8.ofNat (0x80 + v / 64 % 64)
            rw [le, u _ (by omega)]; simp only [UInt8.reduceToNat]; omega
          · have := congrArg UInt8.toNat e; rw [u _ (by omega)] at this; simp at this
            show UInt8.ofNat (0x80 + v / 64 % 64) ≤ 159
            rw [le, u _ (by omega)]; simp only [UInt8.reduceToNat]; omega
        rw [e]; rfl
      · rw [valid_cons (by simp)]
        have e : runeLen [UInt8.ofNat (0xF0 + v / 262144), UInt8.ofNat (0x80 + v / 4096 % 64), UInt8.ofNat (0x80 + v / 64 % 64), UInt8.ofNat (0x80 + v % 64)] = 4 := by
          simp only [runeLen]; unfold runeLenC
          rw [if_neg (by rw [lt, u _ (by omega)]; simp; omega), if_neg (by rw [le, le, u _ (by omega)]; simp; omega), if_neg (by rw [le, le, u _ (by omega)]; simp; omega),
            if_pos ⟨by rw [le, u _ (by omega)]; simp only [UInt8.reduceToNat]; omega, by rw [le, u _ (by omega)]; simp only [UInt8.reduceToNat]; omega⟩]
          refine if_pos ⟨cn _ (Nat.mod_lt _ (by decide : 64 > 0)), cn _ (Nat.mod_lt _ (by decide : 64 > 0)), cn _ (Nat.mod_lt _ (by decide : 64 > 0)), fun e => ?_, fun e => ?_⟩
          · have := congrArg UInt8.toNat e; rw [u _ (by omega)] at this; simp at this
            show 144 ≤ UInt8.ofNat (0x80 + v / 4096 % 64)
            rw [le, u _ (by omega)]; simp only [UInt8.reduceToNat]; omega
          · have := congrArg UInt8.toNat e; rw [u _ (by omega)] at this; simp at this
            show UInt8.ofNat (0x80 + v / 4096 % 64) ≤ 143
            rw [le, u _ (by omega)]; simp only [UInt8.reduceToNat]; omega
        rw [e]; rfl
theorem escape_ok {s b : Bytes} {i j : Nat} (h : escape s i = .ok (b, j)) : i < j ∧ j ≤ s.length ∧ valid b = true := by
  unfold escape at h
  split at h
  · rename_i x hx
    injection h with h; injection h with h1 h2; subst h1; subst h2
    cases hc : s[i + 1]? with
    | none => rw [hc] at hx; cases hx
    | some c =>
      rw [hc] at hx
      have : i + 1 < s.length := by
        rcases Nat.lt_or_ge (i + 1) s.length with g | g
        · exact g
        · rw [List.getElem?_eq_none g] at hc; cases hc
      exact ⟨by omega, by omega, valid_one (simple_lt hx)⟩
  · split at h
    · cases h
    · rename_i v hv
      have hu := unit_ok hv
      split at h
      · split at h
        · cases h
        · rename_i low hlow
          have hw := unit_ok hlow
          split at h
          · injection h with h; injection h with h1 h2; subst h1; subst h2
            exact ⟨by omega, by omega, valid_enc (by omega) (by omega)⟩
          · cases h
      · split at h
        · cases h
        · injection h with h; injection h with h1 h2; subst h1; subst h2
          exact ⟨by omega, by omega, valid_enc (by omega) (by omega)⟩
theorem escape_err {s : Bytes} {i : Nat} {e : Nat × Nat} (h : escape s i = .error e) : e = (7, i) := by
  unfold escape at h
  repeat' (split at h)
  all_goals first | (injection h with h; exact h.symm) | cases h

/-! ### Texts -/
theorem textN_succ (s : Bytes) (n i : Nat) (acc : Bytes) : textN s (n + 1) i acc =
    (if peek s i < 32 then .error (7, i)
    else if peek s i = 34 then .ok (acc, i + 1)
    else if peek s i = 92 then
      match escape s i with
      | .error e => .error e
      | .ok (b, j) => textN s n j (acc ++ b)
    else if runeLen (s.drop i) = 0 then .error (17, i)
    else textN s n (i + runeLen (s.drop i)) (acc ++ (s.drop i).take (runeLen (s.drop i)))) := rfl
theorem textN_ok (s : Bytes) : ∀ (n i : Nat) (acc b : Bytes) (j : Nat), i ≤ s.length → textN s n i acc = .ok (b, j) → valid acc = true → i < j ∧ j ≤ s.length ∧ valid b = true
  | 0, _, _, _, _, _, h, _ => by cases h
  | n + 1, i, acc, b, j, hi, h, hv => by
    unfold textN at h
    split at h
    · cases h
    · rename_i h32
      have hlt : i < s.length := peek_lt (s := s) (i := i) (fun e => h32 (by rw [e]; decide))
      split at h
      · injection h with h; injection h with h1 h2; subst h1; subst h2; exact ⟨by omega, by omega, hv⟩
      · split at h
        · split at h
          · cases h
          · rename_i b' j' he
            have hk := escape_ok he
            have := textN_ok s n j' _ b j hk.2.1 h (valid_append hv hk.2.2)
            exact ⟨by omega, this.2⟩
        · split at h
          · cases h
          · rename_i hz
            have hk := runeLen_le (s.drop i)
            simp at hk
            have := textN_ok s n _ _ b j (by omega) h (valid_append hv (by simpa using valid_piece (r := []) hz valid_nil))
            exact ⟨by omega, this.2⟩
theorem textN_err (s : Bytes) : ∀ (n i : Nat) (acc : Bytes) (e : Nat × Nat), i ≤ s.length → textN s n i acc = .error e → e.2 ≤ s.length
  | 0, i, _, e, hi, h => by injection h with h; subst h; exact hi
  | n + 1, i, acc, e, hi, h => by
    unfold textN at h
    split at h
    · injection h with h; subst h; exact hi
    · split at h
      · cases h
      · split at h
        · split at h
          · rename_i e' he
            injection h with h; subst h; rw [escape_err he]; exact hi
          · rename_i b' j' he
            exact textN_err s n j' _ e (escape_ok he).2.1 h
        · split at h
          · injection h with h; subst h; exact hi
          · rename_i hz
            have hk := runeLen_le (s.drop i)
            simp at hk
            exact textN_err s n _ _ e (by omega) h
theorem text_ok {s b : Bytes} {i j : Nat} (h : text s i = .ok (b, j)) : i + 1 < j ∧ j ≤ s.length ∧ valid b = true := by
  unfold text at h
  split at h
  · rename_i g
    have := peek_lt (s := s) (i := i) (by rw [g]; decide)
    have := textN_ok s _ _ _ _ _ (by omega) h valid_nil
    exact ⟨by omega, this.2⟩
  · cases h
theorem text_err {s : Bytes} {i : Nat} {e : Nat × Nat} (hi : i ≤ s.length) (h : text s i = .error e) : e.2 ≤ s.length := by
  unfold text at h
  split at h
  · rename_i g
    have := peek_lt (s := s) (i := i) (by rw [g]; decide)
    exact textN_err s _ _ _ _ (by omega) h
  · injection h with h; subst h; exact hi

theorem enc_low {c : UInt8} (h : c < 128) : enc c.toNat = [c] := by
  unfold enc
  have : c.toNat < 128 := by rw [UInt8.lt_iff_toNat_lt] at h; simpa using h
  rw [if_pos this]; simp
theorem esc_append (a b : Bytes) : esc (a ++ b) = esc a ++ esc b := by simp [esc]
/-- A control byte, as it is written, is read as it was. -/
theorem control (c : UInt8) (hc : c < 32) : hex4 [48, 48, lowHex (c >>> 4), lowHex (c &&& 15)] = some c.toNat := by
  have key : ∀ k : Fin 32, hex4 [48, 48, lowHex (UInt8.ofNat k.val >>> 4), lowHex (UInt8.ofNat k.val &&& 15)] = some k.val := by decide
  have hn : c.toNat < 32 := by rw [UInt8.lt_iff_toNat_lt] at hc; simpa using hc
  have := key ⟨c.toNat, hn⟩
  simpa using this

theorem escape_simple {s r : Bytes} {i : Nat} {c x : UInt8} (h : s.drop i = 92 :: c :: r) (hx : simple c = some x) : escape s i = .ok ([x], i + 2) := by
  have h1 := drop_succ h
  have : s[i + 1]? = some c := by rw [← List.head?_drop, h1]; rfl
  unfold escape; rw [this]; simp [hx]
theorem escape_unit {s r : Bytes} {i v : Nat} {a b c d : UInt8} (h : s.drop i = 92 :: 117 :: a :: b :: c :: d :: r) (hv : hex4 [a, b, c, d] = some v) (hlow : v < 0xD800) : escape s i = .ok (enc v, i + 6) := by
  have h1 := drop_succ h
  have : s[i + 1]? = some 117 := by rw [← List.head?_drop, h1]; rfl
  have hu : unit s i = some v := by unfold unit; rw [h]; exact hv
  unfold escape; rw [this]
  simp only [Option.bind_some, show simple 117 = none from rfl, hu]
  rw [if_neg (by omega), if_neg (by omega)]

/-- One byte below 128, written, is read. -/
theorem textN_byte {s r acc : Bytes} {n i : Nat} {a : UInt8} (ha : a < 128) (h : s.drop i = escB a ++ r) : textN s (n + 1) i acc = textN s n (i + (escB a).length) (acc ++ [a]) := by
  have esc2 : ∀ c : UInt8, s.drop i = 92 :: c :: r → simple c = some a → textN s (n + 1) i acc = textN s n (i + 2) (acc ++ [a]) := by
    intro c hd hs
    rw [textN_succ]
    rw [peek_drop hd, if_neg (by decide), if_neg (by decide), if_pos rfl, escape_simple hd hs]
  unfold escB at h ⊢
  by_cases g1 : a = 34
  · subst g1; simp only [if_true] at h ⊢; exact esc2 34 h rfl
  rw [if_neg g1] at h ⊢
  by_cases g2 : a = 92
  · subst g2; simp only [if_true] at h ⊢; exact esc2 92 h rfl
  rw [if_neg g2] at h ⊢
  by_cases g3 : a = 8
  · subst g3; simp only [if_true] at h ⊢; exact esc2 98 h rfl
  rw [if_neg g3] at h ⊢
  by_cases g4 : a = 12
  · subst g4; simp only [if_true] at h ⊢; exact esc2 102 h rfl
  rw [if_neg g4] at h ⊢
  by_cases g5 : a = 10
  · subst g5; simp only [if_true] at h ⊢; exact esc2 110 h rfl
  rw [if_neg g5] at h ⊢
  by_cases g6 : a = 13
  · subst g6; simp only [if_true] at h ⊢; exact esc2 114 h rfl
  rw [if_neg g6] at h ⊢
  by_cases g7 : a = 9
  · subst g7; simp only [if_true] at h ⊢; exact esc2 116 h rfl
  rw [if_neg g7] at h ⊢
  by_cases g8 : a < 32
  · rw [if_pos g8] at h ⊢
    have hv := control a g8
    have hlt : a.toNat < 32 := by rw [UInt8.lt_iff_toNat_lt] at g8; simpa using g8
    have he := escape_unit (s := s) (i := i) h hv (by omega)
    rw [textN_succ]
    rw [peek_drop h, if_neg (by decide), if_neg (by decide), if_pos rfl, he, enc_low ha]
    rfl
  · rw [if_neg g8] at h ⊢
    rw [textN_succ]
    have hrl : runeLen (s.drop i) = 1 := by rw [h]; simp [runeLen, runeLenC, ha]
    have htk : (s.drop i).take 1 = [a] := by rw [h]; rfl
    rw [peek_drop h, if_neg g8, if_neg g1, if_neg g2, hrl, htk]
    rfl

theorem escB_high {c : UInt8} (h : 128 ≤ c) : escB c = [c] := by
  have hn : 128 ≤ c.toNat := by rw [UInt8.le_iff_toNat_le] at h; simpa using h
  have ne : ∀ k : UInt8, k.toNat < 128 → c ≠ k := fun k hk e => by subst e; omega
  unfold escB
  rw [if_neg (ne _ (by decide)), if_neg (ne _ (by decide)), if_neg (ne _ (by decide)), if_neg (ne _ (by decide)), if_neg (ne _ (by decide)), if_neg (ne _ (by decide)), if_neg (ne _ (by decide)),
    if_neg (by rw [UInt8.lt_iff_toNat_lt]; simp; omega)]
theorem esc_high : ∀ l : Bytes, (∀ c ∈ l, 128 ≤ c) → esc l = l
  | [], _ => rfl
  | a :: l, h => by
    have h1 := escB_high (h a (by simp))
    have h2 := esc_high l fun c hc => h c (by simp [hc])
    show escB a ++ esc l = a :: l
    rw [h1, h2]; rfl
theorem escB_pos (c : UInt8) : 0 < (escB c).length := by
  unfold escB
  repeat' split
  all_goals simp
/-- A valid text, written, is read as it was. -/
theorem textN_back (s : Bytes) : ∀ t, valid t = true → ∀ (n i : Nat) (acc r : Bytes), s.length < i + n → s.drop i = esc t ++ 34 :: r → textN s n i acc = .ok (acc ++ t, i + (esc t).length + 1) := by
  refine valid_induct ?_ ?_
  · intro n i acc r hn h
    have h : s.drop i = 34 :: r := h
    have hlt := peek_lt (s := s) (i := i) (by rw [peek_drop h]; decide)
    cases n with
    | zero => omega
    | succ n =>
      rw [textN_succ]
      rw [peek_drop h, if_neg (by decide), if_pos rfl]; simp [esc]
  · intro l hz hv ih n i acc r hn h
    cases l with
    | nil => exact absurd rfl hz
    | cons a l =>
      have hlt : i < s.length := by
        rcases Nat.lt_or_ge i s.length with g | g
        · exact g
        · rw [List.drop_of_length_le g] at h
          have := congrArg List.length h
          simp at this
      cases n with
      | zero => omega
      | succ n =>
        by_cases ha : a < 128
        · have hr1 : runeLen (a :: l) = 1 := by simp [runeLen, runeLenC, ha]
          rw [hr1] at hv ih
          have hd : s.drop i = escB a ++ (esc l ++ 34 :: r) := by rw [h]; show (escB a ++ esc l) ++ _ = _; simp
          have hd2 := drop_add hd
          have hp := escB_pos a
          rw [textN_byte ha hd, ih n _ (acc ++ [a]) r (by omega) hd2]
          have e : (esc (a :: l)).length = (escB a).length + (esc l).length := by show (escB a ++ esc l).length = _; simp
          rw [e]
          simp; omega
        · have hk := runeLen_le (a :: l)
          have hhigh := runeLen_high (a :: l) hz (fun c hc => by cases hc; exact ha)
          have hsplit : a :: l = (a :: l).take (runeLen (a :: l)) ++ (a :: l).drop (runeLen (a :: l)) := (List.take_append_drop _ _).symm
          have he : esc (a :: l) = (a :: l).take (runeLen (a :: l)) ++ esc ((a :: l).drop (runeLen (a :: l))) := by
            conv => lhs; rw [hsplit]
            rw [esc_append, esc_high _ hhigh]
          have hd : s.drop i = (a :: l).take (runeLen (a :: l)) ++ (esc ((a :: l).drop (runeLen (a :: l))) ++ 34 :: r) := by rw [h, he]; simp
          have hrl : runeLen (s.drop i) = runeLen (a :: l) := by rw [hd]; exact runeLen_take _ _ hz
          have htl : ((a :: l).take (runeLen (a :: l))).length = runeLen (a :: l) := by rw [List.length_take]; omega
          have htk : (s.drop i).take (runeLen (a :: l)) = (a :: l).take (runeLen (a :: l)) := by
            rw [hd, List.take_append_of_le_length (by omega), List.take_take]; simp
          have hd2 := drop_add hd
          rw [htl] at hd2
          have ha' : (128 : UInt8) ≤ a := UInt8.not_lt.mp ha
          have hpk : peek s i = a := by
            cases hn0 : runeLen (a :: l) with
            | zero => exact absurd hn0 hz
            | succ q =>
              rw [hn0] at hd
              exact peek_drop hd
          have ne : ∀ k : UInt8, k.toNat < 128 → ¬ a = k := fun k hk e => by
            subst e; rw [UInt8.le_iff_toNat_le] at ha'; simp at ha'; omega
          rw [textN_succ]
          rw [hpk, if_neg (by rw [UInt8.lt_iff_toNat_lt]; rw [UInt8.le_iff_toNat_le] at ha'; simp at ha' ⊢; omega), if_neg (ne _ (by decide)), if_neg (ne _ (by decide)), hrl, if_neg hz, htk]
          rw [ih n _ _ r (by omega) hd2, he]
          congr 2
          · rw [List.append_assoc, List.take_append_drop]
          · rw [List.length_append, htl]; omega
theorem text_back {s t r : Bytes} {i : Nat} (hv : valid t = true) (h : s.drop i = jtext t ++ r) : text s i = .ok (t, i + (jtext t).length) := by
  have h1 : s.drop i = 34 :: (esc t ++ 34 :: r) := by rw [h]; simp [jtext]
  have hlt := peek_lt (s := s) (i := i) (by rw [peek_drop h1]; decide)
  unfold text
  rw [peek_drop h1, if_pos rfl, textN_back s t hv _ _ [] r (by omega) (drop_succ h1)]
  simp [jtext]; omega
end Cx
namespace Cx

theorem starts_mem {c : UInt8} : starts c = true ↔ c ∈ ([110, 116, 102, 34, 91, 123, 45, 48, 49, 50, 51, 52, 53, 54, 55, 56, 57] : Bytes) := by simp [starts]
theorem starts_blank {c : UInt8} (h : starts c = true) : isBlank c = false := by
  rw [starts_mem] at h
  simp at h
  rcases h with h | h | h | h | h | h | h | h | h | h | h | h | h | h | h | h | h <;> subst h <;> rfl
theorem starts_ne {c : UInt8} (h : starts c = true) : c ≠ 93 ∧ c ≠ 125 ∧ c ≠ 0 := by
  rw [starts_mem] at h
  simp at h
  rcases h with h | h | h | h | h | h | h | h | h | h | h | h | h | h | h | h | h <;> subst h <;> decide
set_option maxRecDepth 100000 in
theorem starts_dig {c : UInt8} (h : isDig c = true) : starts c = true := by
  have key : ∀ k : Fin 256, isDig (UInt8.ofNat k.val) = true → starts (UInt8.ofNat k.val) = true := by decide
  have := key ⟨c.toNat, c.toNat_lt⟩
  simp only [UInt8.ofNat_toNat] at this
  exact this h
set_option maxRecDepth 100000 in
theorem dig_ne {c : UInt8} (h : c = 45 ∨ isDig c = true) : c ≠ 110 ∧ c ≠ 116 ∧ c ≠ 102 ∧ c ≠ 34 ∧ ¬ (c = 91 ∨ c = 123) := by
  rcases h with h | h
  · subst h; decide
  · have key : ∀ k : Fin 256, isDig (UInt8.ofNat k.val) = true → (UInt8.ofNat k.val) ≠ 110 ∧ (UInt8.ofNat k.val) ≠ 116 ∧ (UInt8.ofNat k.val) ≠ 102 ∧ (UInt8.ofNat k.val) ≠ 34 ∧ ¬ ((UInt8.ofNat k.val) = 91 ∨ (UInt8.ofNat k.val) = 123) := by decide
    have := key ⟨c.toNat, c.toNat_lt⟩
    simp only [UInt8.ofNat_toNat] at this
    exact this h

/-! ### Words -/
theorem word_ok {s : Bytes} : ∀ {w : Bytes} {i j : Nat}, (0 : UInt8) ∉ w → i ≤ s.length → word s w i = .ok j → j = i + w.length ∧ j ≤ s.length
  | [], i, j, _, hi, h => by injection h with h; subst h; exact ⟨rfl, hi⟩
  | c :: w, i, j, h0, hi, h => by
    unfold word at h
    split at h
    · rename_i g
      have := peek_lt (s := s) (i := i) (by rw [g]; intro e; exact h0 (by simp [e]))
      have := word_ok (s := s) (w := w) (by intro e; exact h0 (by simp [e])) (by omega) h
      simp; omega
    · cases h
theorem word_err {s : Bytes} : ∀ {w : Bytes} {i : Nat} {e : Nat × Nat}, (0 : UInt8) ∉ w → i ≤ s.length → word s w i = .error e → e.2 ≤ s.length
  | [], _, _, _, _, h => by cases h
  | c :: w, i, e, h0, hi, h => by
    unfold word at h
    split at h
    · rename_i g
      have := peek_lt (s := s) (i := i) (by rw [g]; intro e; exact h0 (by simp [e]))
      exact word_err (s := s) (w := w) (by intro e; exact h0 (by simp [e])) (by omega) h
    · injection h with h; subst h; exact hi
theorem word_back {s : Bytes} : ∀ {w r : Bytes} {i : Nat}, s.drop i = w ++ r → word s w i = .ok (i + w.length)
  | [], _, _, _ => rfl
  | c :: w, r, i, h => by
    have h1 : s.drop i = c :: (w ++ r) := h
    unfold word
    rw [peek_drop h1, if_pos rfl, word_back (drop_succ h1)]
    simp; omega

/-! ### What is read is right -/
theorem namesOk_snoc : ∀ (l old : List Bytes) (s : Bytes), namesOk old (l ++ [s]) = (namesOk old l && (valid s && !decide (s ∈ old ++ l)))
  | [], old, s => by simp [namesOk]
  | a :: l, old, s => by
    simp only [List.cons_append, namesOk, namesOk_snoc l (old ++ [a]) s, Bool.and_assoc]
    simp [List.append_assoc]
theorem rightK_snoc (d : Nat) : ∀ (l : List J) (k : J), rightK d (l ++ [k]) = (rightK d l && right d k)
  | [], k => by simp [rightK]
  | a :: l, k => by simp only [List.cons_append, rightK, rightK_snoc d l k, Bool.and_assoc]
theorem nodesK_snoc : ∀ (l : List J) (k : J), nodesK (l ++ [k]) = nodesK l + nodes k
  | [], k => by simp [nodesK]
  | a :: l, k => by simp only [List.cons_append, nodesK, nodesK_snoc l k]; omega

theorem name_ok {s t : Bytes} {l : List Bytes} {i j : Nat} (h : name s l i = .ok (t, j)) : i < j ∧ j ≤ s.length ∧ valid t = true ∧ t ∉ l := by
  unfold name at h
  split at h
  · cases h
  · rename_i t' j' ht
    have hk := text_ok ht
    have := skipB_le (s := s) (i := i)
    split at h
    · cases h
    · rename_i hm
      split at h
      · cases h
      · rename_i k hw
        injection h with h; injection h with h1 h2; subst h1; subst h2
        have := word_ok (by decide) (skipB_len hk.2.1) hw
        have := skipB_le (s := s) (i := j')
        exact ⟨by omega, by omega, hk.2.2, hm⟩
theorem name_err {s : Bytes} {l : List Bytes} {i : Nat} {e : Nat × Nat} (hi : i ≤ s.length) (h : name s l i = .error e) : e.2 ≤ s.length := by
  unfold name at h
  split at h
  · rename_i e' ht
    injection h with h; subst h; exact text_err (skipB_len hi) ht
  · rename_i t' j' ht
    have hk := text_ok ht
    split at h
    · injection h with h; subst h; exact skipB_len hi
    · split at h
      · rename_i e' hw
        injection h with h; subst h; exact word_err (by decide) (skipB_len hk.2.1) hw
      · cases h

/-- What a reader of values must give. -/
structure Fine (s : Bytes) (d : Nat) (val : Nat → Nat → Res (J × Nat × Nat)) : Prop where
  ok : ∀ i m v j m', i ≤ s.length → m ≤ 5000 → val i m = .ok (v, j, m') → i < j ∧ j ≤ s.length ∧ m' = m + nodes v ∧ m' ≤ 5000 ∧ right d v = true
  err : ∀ i m e, i ≤ s.length → m ≤ 5000 → val i m = .error e → e.2 ≤ s.length

theorem parts_fine {s : Bytes} {d : Nat} {val : Nat → Nat → Res (J × Nat × Nat)} (hv : Fine s (d + 1) val) (hd : d < 20) (obj : Bool) :
    ∀ (n i m : Nat) (ns : List Bytes) (ks : List J), i ≤ s.length → m ≤ 5000 → (obj = true → ns.length = ks.length ∧ namesOk [] ns = true) → (obj = false → ns = []) → rightK (d + 1) ks = true →
      (∀ v j m', parts val s obj n i m ns ks = .ok (v, j, m') → i < j ∧ j ≤ s.length ∧ m' + 1 + nodesK ks = m + nodes v ∧ m' ≤ 5000 ∧ right d v = true) ∧
      (∀ e, parts val s obj n i m ns ks = .error e → e.2 ≤ s.length)
  | 0, i, m, ns, ks, hi, _, _, _, _ => ⟨fun _ _ _ h => (by cases h), fun e h => by injection h with h; subst h; exact hi⟩
  | n + 1, i, m, ns, ks, hi, hm, ho, hl, hr => by
    unfold parts
    cases h1 : (if obj = true then name s ns i else Except.ok ([], i)) with
    | error e =>
      refine ⟨fun _ _ _ h => (by cases h), fun e' h => ?_⟩
      injection h with h; subst h
      cases obj with
      | true => exact name_err hi h1
      | false => cases h1
    | ok a =>
      obtain ⟨t, i1⟩ := a
      have hi1 : i ≤ i1 ∧ i1 ≤ s.length := by
        cases obj with
        | true => have := name_ok h1; omega
        | false => injection h1 with h1; injection h1 with _ h1; subst h1; omega
      simp only
      cases h2 : val i1 m with
      | error e =>
        refine ⟨fun _ _ _ h => (by cases h), fun e' h => ?_⟩
        injection h with h; subst h
        exact hv.err _ _ _ hi1.2 hm h2
      | ok b =>
        obtain ⟨k, i2, m2⟩ := b
        have hk := hv.ok _ _ _ _ _ hi1.2 hm h2
        have hsb := skipB_le (s := s) (i := i2)
        have hsl := skipB_len hk.2.1
        simp only
        have hr' : rightK (d + 1) (ks ++ [k]) = true := by rw [rightK_snoc, hr, hk.2.2.2.2]; rfl
        have ho' : obj = true → (if obj = true then ns ++ [t] else ns).length = (ks ++ [k]).length ∧ namesOk [] (if obj = true then ns ++ [t] else ns) = true := by
          intro he; subst he
          have hn := name_ok h1
          have := ho rfl
          simp only [if_true, List.length_append, List.length_singleton]
          refine ⟨by omega, ?_⟩
          rw [namesOk_snoc, this.2, hn.2.2.1]; simp [hn.2.2.2]
        have hl' : obj = false → (if obj = true then ns ++ [t] else ns) = [] := by
          intro he; subst he; simp; exact hl rfl
        split
        · rename_i hc
          have hlt := peek_lt (s := s) (i := skipB s i2) (by rw [hc]; decide)
          have ih := parts_fine hv hd obj n (skipB s i2 + 1) m2 _ _ (by omega) hk.2.2.2.1 ho' hl' hr'
          refine ⟨fun v j m' h => ?_, fun e h => ih.2 e h⟩
          have := ih.1 v j m' h
          rw [nodesK_snoc] at this
          refine ⟨by omega, this.2.1, by omega, this.2.2.2⟩
        · cases h3 : word s [if obj = true then 125 else 93] (skipB s i2) with
          | error e =>
            refine ⟨fun _ _ _ h => (by cases h), fun e' h => ?_⟩
            injection h with h; subst h
            exact word_err (by cases obj <;> decide) hsl h3
          | ok j' =>
            have hw := word_ok (by cases obj <;> decide) hsl h3
            refine ⟨fun v j m' h => ?_, fun e' h => by cases h⟩
            simp only at h
            injection h with h; injection h with e1 h; injection h with e2 e3
            subst e1; subst e2; subst e3
            simp only [List.length_singleton] at hw
            refine ⟨by omega, hw.2, ?_, hk.2.2.2.1, ?_⟩
            · simp only [nodes, nodesK_snoc]; omega
            · cases obj with
              | true =>
                have := ho' rfl
                simp only [if_true] at this ⊢
                simp [right, this.1, this.2, hd, hr']
              | false =>
                have := hl rfl
                subst this
                simp [right, hd, hr']

theorem value_fine (s : Bytes) : ∀ (n d : Nat), d ≤ 20 → Fine s d (fun i m => value s n d i m)
  | 0, d, _ => ⟨fun _ _ _ _ _ _ _ h => (by cases h), fun i m e hi _ h => by injection h with h; subst h; exact hi⟩
  | n + 1, d, hd => by
    have key : ∀ i m, i ≤ s.length → m ≤ 5000 →
        (∀ v j m', value s (n + 1) d i m = .ok (v, j, m') → i < j ∧ j ≤ s.length ∧ m' = m + nodes v ∧ m' ≤ 5000 ∧ right d v = true) ∧ (∀ e, value s (n + 1) d i m = .error e → e.2 ≤ s.length) := by
      intro i m hi hm
      have hle := skipB_le (s := s) (i := i)
      have hlen := skipB_len hi
      unfold value
      simp only
      generalize skipB s i = p at *
      split
      · exact ⟨fun _ _ _ h => (by cases h), fun e h => (by injection h with h; subst h; exact hlen)⟩
      · rename_i hst
        have hst : starts (peek s p) = true := by simpa using hst
        have hplt := peek_lt (starts_ne hst).2.2
        split
        · exact ⟨fun _ _ _ h => (by cases h), fun e h => (by injection h with h; subst h; exact hlen)⟩
        · have wd : ∀ (w : Bytes) (v : J), (0 : UInt8) ∉ w → 0 < w.length → nodes v = 1 → right d v = true →
              (∀ v' j m', (match word s w p with | .error e => .error e | .ok k => .ok (v, k, m + 1) : Res (J × Nat × Nat)) = .ok (v', j, m') → i < j ∧ j ≤ s.length ∧ m' = m + nodes v' ∧ m' ≤ 5000 ∧ right d v' = true) ∧
              (∀ e, (match word s w p with | .error e => .error e | .ok k => .ok (v, k, m + 1) : Res (J × Nat × Nat)) = .error e → e.2 ≤ s.length) := by
            intro w v h0 hw hnv hrv
            cases hwd : word s w p with
            | error e => exact ⟨fun _ _ _ h => (by cases h), fun e' h => (by injection h with h; subst h; exact word_err h0 hlen hwd)⟩
            | ok k =>
              have := word_ok h0 hlen hwd
              refine ⟨fun v' j m' h => ?_, fun e' h => by cases h⟩
              simp only at h
              injection h with h; injection h with e1 h; injection h with e2 e3
              subst e1; subst e2; subst e3
              exact ⟨by omega, this.2, by omega, by omega, hrv⟩
          split
          · exact wd _ _ (by decide) (by decide) rfl (by simp [right])
          · split
            · exact wd _ _ (by decide) (by decide) rfl (by simp [right])
            · split
              · exact wd _ _ (by decide) (by decide) rfl (by simp [right])
              · split
                · cases ht : text s p with
                  | error e => exact ⟨fun _ _ _ h => (by cases h), fun e' h => (by injection h with h; subst h; exact text_err hlen ht)⟩
                  | ok a =>
                    obtain ⟨t, k⟩ := a
                    have hk := text_ok ht
                    refine ⟨fun v' j m' h => ?_, fun e' h => by cases h⟩
                    simp only at h
                    injection h with h; injection h with e1 h; injection h with e2 e3
                    subst e1; subst e2; subst e3
                    exact ⟨by omega, hk.2.1, rfl, by omega, by simp [right, hk.2.2]⟩
                · split
                  · split
                    · exact ⟨fun _ _ _ h => (by cases h), fun e h => (by injection h with h; subst h; exact hlen)⟩
                    · have hf := value_fine s n (d + 1) (by omega)
                      have hsb := skipB_le (s := s) (i := p + 1)
                      have hsl := skipB_len (s := s) (i := p + 1) (by omega)
                      unfold group
                      by_cases hc : peek s (skipB s (p + 1)) = (if decide (peek s p = 123) = true then 125 else 93)
                      · rw [if_pos hc]
                        have hplt2 := peek_lt (s := s) (i := skipB s (p + 1)) (by rw [hc]; split <;> decide)
                        refine ⟨fun v' j m' h => ?_, fun e' h => by cases h⟩
                        injection h with h; injection h with e1 h; injection h with e2 e3
                        subst e1; subst e2; subst e3
                        refine ⟨by omega, by omega, by simp [nodes, nodesK], by omega, ?_⟩
                        split <;> simp [right, rightK, namesOk] <;> omega
                      · rw [if_neg hc]
                        have hp := parts_fine hf (by omega) (decide (peek s p = 123)) (s.length + 1) (skipB s (p + 1)) (m + 1) [] [] (by omega) (by omega) (by simp [namesOk]) (by simp) rfl
                        refine ⟨fun v' j m' h => ?_, fun e' h => hp.2 e' h⟩
                        have := hp.1 v' j m' h
                        simp only [nodesK] at this
                        exact ⟨by omega, this.2.1, by omega, this.2.2.2.1, this.2.2.2.2⟩
                  · cases hn : number s p with
                    | error e => exact ⟨fun _ _ _ h => (by cases h), fun e' h => (by injection h with h; subst h; exact number_err hlen hn)⟩
                    | ok k =>
                      have hk := number_ok hn
                      refine ⟨fun v' j m' h => ?_, fun e' h => by cases h⟩
                      simp only at h
                      injection h with h; injection h with e1 h; injection h with e2 e3
                      subst e1; subst e2; subst e3
                      exact ⟨by omega, hk.2.1, rfl, by omega, by simp [right, isNum_of_number hn]⟩
    exact ⟨fun i m v j m' hi hm h => (key i m hi hm).1 v j m' h, fun i m e hi hm h => (key i m hi hm).2 e h⟩

theorem parse_right {s : Bytes} {v : J} (h : parse s = .ok v) : Right v = true := by
  unfold parse at h
  split at h
  · cases h
  · split at h
    · cases h
    · rename_i v' i m' hv
      have := (value_fine s (s.length + 1) 0 (by omega)).ok 0 0 _ _ _ (by omega) (by omega) hv
      split at h
      · cases h
      · injection h with h; subst h
        simp [Right, this.2.2.2.2]; omega
end Cx
namespace Cx

def Blanks (w : Bytes) : Prop := ∀ c ∈ w, isBlank c = true
theorem Blanks.nil : Blanks [] := fun _ h => by cases h
theorem Blanks.append {a b : Bytes} (ha : Blanks a) (hb : Blanks b) : Blanks (a ++ b) := fun c hc => (List.mem_append.1 hc).elim (ha c) (hb c)

mutual
/-- A text shows a value: it is as it is written, but for blanks between the parts. -/
def Shows : J → Bytes → Prop
  | .mk k is t ns ks, x =>
    if k = 5 ∨ k = 6 then ∃ y, x = (if k = 6 then 123 else 91) :: (y ++ [if k = 6 then 125 else 93]) ∧ ShowsK (decide (k = 6)) true ns ks y
    else x = pr (.mk k is t ns ks)
def ShowsK (obj : Bool) : Bool → List Bytes → List J → Bytes → Prop
  | _, _, [], y => Blanks y
  | first, ns, k :: ks, y => ∃ w0 w1 w2 w3 x z : Bytes, Blanks w0 ∧ Blanks w1 ∧ Blanks w2 ∧ Blanks w3 ∧
      y = w0 ++ ((if first then [] else 44 :: w1) ++ ((if obj then jtext (ns.headD []) ++ (w2 ++ [58]) else []) ++ (w3 ++ (x ++ z)))) ∧ Shows k x ∧ ShowsK obj false ns.tail ks z
end

theorem isNum_starts {t : Bytes} (h : isNum t) : ∃ c r, t = c :: r ∧ starts c = true ∧ (c = 45 ∨ isDig c = true) := by
  cases t with
  | nil => exact absurd rfl (isNum_ne h)
  | cons c r =>
    have := isNum_head h
    have e : peek (c :: r) 0 = c := rfl
    rw [e] at this
    refine ⟨c, r, rfl, ?_, this⟩
    rcases this with g | g
    · subst g; rfl
    · exact starts_dig g

/-- What shows a right value begins with one of the bytes with which a value begins. -/
theorem shows_starts {v : J} {d : Nat} {x : Bytes} (hr : right d v = true) (hs : Shows v x) : ∃ c r, x = c :: r ∧ starts c = true := by
  obtain ⟨k, is, t, ns, ks⟩ := v
  unfold Shows at hs
  split at hs
  · obtain ⟨y, rfl, _⟩ := hs
    split
    · exact ⟨_, _, rfl, rfl⟩
    · exact ⟨_, _, rfl, rfl⟩
  · subst hs
    unfold right at hr
    unfold pr
    split
    · exact ⟨_, _, rfl, rfl⟩
    · split
      · split <;> exact ⟨_, _, rfl, rfl⟩
      · split
        · rename_i h1 h2 h3
          rw [if_neg h1, if_neg h2, if_pos h3] at hr
          simp only [Bool.and_eq_true, decide_eq_true_eq] at hr
          obtain ⟨c, r, e, h, _⟩ := isNum_starts hr.2
          exact ⟨c, r, e, h⟩
        · split
          · exact ⟨_, _, rfl, rfl⟩
          · split <;> exact ⟨_, _, rfl, rfl⟩

/-- May what stands behind a value stand behind a number? -/
theorem ends_comma : ends 44 := by simp [ends, isDig]
theorem ends_square : ends 93 := by simp [ends, isDig]
theorem ends_curly : ends 125 := by simp [ends, isDig]
theorem ends_blank {c : UInt8} (h : isBlank c = true) : ends c := by
  rcases isBlank_ne h with rfl | rfl | rfl | rfl <;> simp [ends, isDig]
theorem ends_blanks {w r : Bytes} (hw : Blanks w) (hr : ends (r.headD 0)) : ends ((w ++ r).headD 0) := by
  cases w with
  | nil => simpa using hr
  | cons c w => exact ends_blank (hw c (by simp))

/-- What stands behind a part ends a number. -/
theorem showsK_ends {obj : Bool} {ns : List Bytes} {ks : List J} {z r : Bytes} (h : ShowsK obj false ns ks z) (hr : ends (r.headD 0)) : ends ((z ++ r).headD 0) := by
  cases ks with
  | nil => exact ends_blanks h hr
  | cons k ks =>
    obtain ⟨w0, w1, w2, w3, x, z', h0, _, _, _, rfl, _, _⟩ := h
    rw [List.append_assoc]
    refine ends_blanks h0 ?_
    exact ends_comma

theorem drop_lt {s : Bytes} {i : Nat} {c : UInt8} {r : Bytes} (h : s.drop i = c :: r) : i < s.length := by
  rcases Nat.lt_or_ge i s.length with g | g
  · exact g
  · rw [List.drop_of_length_le g] at h; cases h
theorem skipB_over' {s : Bytes} {i : Nat} {w r : Bytes} {c : UInt8} (h : s.drop i = w ++ c :: r) (hw : Blanks w) (hc : isBlank c = false) : skipB s i = i + w.length :=
  skipB_over h hw hc

set_option maxHeartbeats 2000000 in
mutual
theorem value_back (s : Bytes) : ∀ (v : J) (d : Nat) (x : Bytes), right d v = true → Shows v x → ∀ (n i m : Nat) (w r : Bytes), s.length < i + n → Blanks w → s.drop i = w ++ (x ++ r) →
    ends (r.headD 0) → m + nodes v ≤ 5000 → value s n d i m = .ok (v, i + w.length + x.length, m + nodes v)
  | .mk k is t ns ks, d, x, hr, hs, n, i, m, w, r, hn, hw, hd, he, hm => by
    obtain ⟨c, x', hx, hc⟩ := shows_starts hr hs
    have hi : i < s.length := by
      rcases Nat.lt_or_ge i s.length with g | g
      · exact g
      · rw [List.drop_of_length_le g, hx] at hd
        have := congrArg List.length hd
        simp at this
    cases n with
    | zero => omega
    | succ n =>
      have hsk : skipB s i = i + w.length := by
        rw [hx] at hd
        exact skipB_over' hd hw (starts_blank hc)
      have hd2 := drop_add hd
      have hpk : peek s (i + w.length) = c := by rw [hx] at hd2; exact peek_drop hd2
      have hplt := peek_lt (s := s) (i := i + w.length) (by rw [hpk]; exact (starts_ne hc).2.2)
      have hnm : ¬ 5000 ≤ m := by simp only [nodes] at hm; omega
      unfold value
      simp only
      rw [hsk, hpk, if_neg (by simp [hc]), if_neg hnm]
      have hip : i ≤ i + w.length := Nat.le_add_right _ _
      generalize i + w.length = p at *
      unfold right at hr
      unfold Shows at hs
      by_cases k1 : k = 1
      · subst k1
        simp only [if_true, Bool.and_eq_true, Bool.not_eq_true', decide_eq_true_eq, List.isEmpty_iff] at hr
        obtain ⟨⟨⟨rfl, rfl⟩, rfl⟩, rfl⟩ := hr
        rw [if_neg (by decide)] at hs
        subst hs
        obtain ⟨rfl, rfl⟩ : c = 110 ∧ x' = [117, 108, 108] := by simpa [pr] using hx.symm
        rw [if_pos rfl, word_back (by rw [hd2]; rfl)]
        simp [pr, nodes, nodesK]
      · rw [if_neg k1] at hr
        by_cases k2 : k = 2
        · subst k2
          simp only [if_true, Bool.and_eq_true, decide_eq_true_eq, List.isEmpty_iff] at hr
          obtain ⟨⟨rfl, rfl⟩, rfl⟩ := hr
          rw [if_neg (by decide)] at hs
          subst hs
          cases is with
          | true =>
            obtain ⟨rfl, rfl⟩ : c = 116 ∧ x' = [114, 117, 101] := by simpa [pr] using hx.symm
            rw [if_neg (by decide), if_pos rfl, word_back (by rw [hd2]; rfl)]
            simp [pr, nodes, nodesK]
          | false =>
            obtain ⟨rfl, rfl⟩ : c = 102 ∧ x' = [97, 108, 115, 101] := by simpa [pr] using hx.symm
            rw [if_neg (by decide), if_neg (by decide), if_pos rfl, word_back (by rw [hd2]; rfl)]
            simp [pr, nodes, nodesK]
        · rw [if_neg k2] at hr
          by_cases k3 : k = 3
          · subst k3
            simp only [if_true, Bool.and_eq_true, Bool.not_eq_true', decide_eq_true_eq, List.isEmpty_iff] at hr
            obtain ⟨⟨⟨rfl, rfl⟩, rfl⟩, hnum⟩ := hr
            rw [if_neg (by decide)] at hs
            have hp : pr (.mk 3 false t [] []) = t := by simp [pr]
            rw [hp] at hs
            subst hs
            obtain ⟨c', r', e1, _, e2⟩ := isNum_starts hnum
            rw [hx] at e1
            obtain ⟨rfl, rfl⟩ : c = c' ∧ x' = r' := by simpa using e1
            have hne := dig_ne e2
            rw [if_neg hne.1, if_neg hne.2.1, if_neg hne.2.2.1, if_neg hne.2.2.2.1, if_neg hne.2.2.2.2, number_of_isNum hnum hd2 he]
            have : p + x.length - p = x.length := by omega
            simp [this, hd2, nodes, nodesK]
          · rw [if_neg k3] at hr
            by_cases k4 : k = 4
            · subst k4
              simp only [if_true, Bool.and_eq_true, Bool.not_eq_true', decide_eq_true_eq, List.isEmpty_iff] at hr
              obtain ⟨⟨⟨rfl, rfl⟩, rfl⟩, hv⟩ := hr
              rw [if_neg (by decide)] at hs
              have hp : pr (.mk 4 false t [] []) = jtext t := by simp [pr]
              rw [hp] at hs
              subst hs
              obtain ⟨rfl, _⟩ : c = 34 ∧ x' = esc t ++ [34] := by simpa [jtext] using hx.symm
              rw [if_neg (by decide), if_neg (by decide), if_neg (by decide), if_pos rfl, text_back hv hd2]
              simp [nodes, nodesK]
            · rw [if_neg k4] at hr
              have hk : k = 5 ∨ k = 6 := by
                by_cases k5 : k = 5
                · exact .inl k5
                · rw [if_neg k5] at hr
                  by_cases k6 : k = 6
                  · exact .inr k6
                  · rw [if_neg k6] at hr; cases hr
              rw [if_pos hk] at hs
              obtain ⟨y, hy, hsk2⟩ := hs
              have hr2 : (decide (k = 6) = true → ns.length = ks.length ∧ namesOk [] ns = true) ∧ (decide (k = 6) = false → ns = []) ∧ t = [] ∧ is = false ∧ d < 20 ∧ rightK (d + 1) ks = true := by
                rcases hk with rfl | rfl
                · simp at hr; simp [hr]
                · simp at hr; simp [hr]
              clear hr
              obtain ⟨hn6, hn5, rfl, rfl, hdl, hrk⟩ := hr2
              have hc2 : c = 91 ∨ c = 123 := by
                rw [hx] at hy; injection hy with h1 _
                rw [h1]; rcases hk with rfl | rfl <;> simp
              have hkc : decide (c = 123) = decide (k = 6) := by
                rw [hx] at hy; injection hy with h1 _
                rw [h1]; rcases hk with rfl | rfl <;> simp
              have hcn : c ≠ 110 ∧ c ≠ 116 ∧ c ≠ 102 ∧ c ≠ 34 := by rcases hc2 with rfl | rfl <;> decide
              rw [if_neg hcn.1, if_neg hcn.2.1, if_neg hcn.2.2.1, if_neg hcn.2.2.2, if_pos hc2, if_neg (by omega), hkc]
              have hkk : k = if decide (k = 6) = true then 6 else 5 := by rcases hk with rfl | rfl <;> simp
              have hdy : s.drop (p + 1) = y ++ ((if decide (k = 6) = true then 125 else 93) :: r) := by
                rw [hy] at hd2
                have := drop_succ (c := if k = 6 then 123 else 91) (r := y ++ [if k = 6 then 125 else 93] ++ r) (by rw [hd2]; simp)
                rw [this]; simp
              have hyl : x.length = y.length + 2 := by rw [hy]; simp
              have hob : (if decide (k = 6) = true then (125 : UInt8) else 93) = 125 ∨ (if decide (k = 6) = true then (125 : UInt8) else 93) = 93 := by split <;> simp
              have hclb : isBlank (if decide (k = 6) = true then (125 : UInt8) else 93) = false := by rcases hob with e | e <;> rw [e] <;> rfl
              have hcle : ends (if decide (k = 6) = true then (125 : UInt8) else 93) := by rcases hob with e | e <;> rw [e] <;> first | exact ends_curly | exact ends_square
              unfold group
              generalize hO : decide (k = 6) = obj at *
              cases ks with
              | nil =>
                have hyb : Blanks y := hsk2
                have hsk3 : skipB s (p + 1) = p + 1 + y.length := skipB_over' hdy hyb hclb
                have hd3 := drop_add hdy
                rw [hsk3, peek_drop hd3, if_pos rfl]
                have : ns = [] := by
                  cases obj with
                  | true => have := (hn6 rfl).1; simpa using this
                  | false => exact hn5 rfl
                subst this
                rw [← hkk]
                simp [nodes, nodesK]; omega
              | cons k0 ks =>
                obtain ⟨w0, w1, w2, w3, x0, z, h0, h1, h2, h3, hyy, hx0, hz⟩ := hsk2
                simp only [rightK, Bool.and_eq_true] at hrk
                obtain ⟨c0, r0, hx0c, hc0⟩ := shows_starts hrk.1 hx0
                have hfirst : ((if obj then jtext (ns.headD []) ++ (w2 ++ [58]) else []) ++ (w3 ++ (x0 ++ z))) = (if obj then [] else w3) ++ ((if obj then jtext (ns.headD []) ++ (w2 ++ [58]) ++ w3 else []) ++ (x0 ++ z)) := by
                  cases obj <;> simp
                rw [if_pos rfl, List.nil_append, hfirst] at hyy
                -- past the blanks behind the bracket
                have hb0 : Blanks (w0 ++ (if obj then [] else w3)) := h0.append (by cases obj; exact h3; exact Blanks.nil)
                have hdy2 : s.drop (p + 1) = (w0 ++ (if obj then [] else w3)) ++ (((if obj then jtext (ns.headD []) ++ (w2 ++ [58]) ++ w3 else []) ++ (x0 ++ z)) ++ ((if obj = true then 125 else 93) :: r)) := by
                  rw [hdy, hyy]; simp
                have hnb : ∃ c1 r1, (((if obj then jtext (ns.headD []) ++ (w2 ++ [58]) ++ w3 else []) ++ (x0 ++ z)) ++ ((if obj = true then 125 else 93) :: r)) = c1 :: r1 ∧ isBlank c1 = false ∧ c1 ≠ (if obj = true then 125 else 93) := by
                  cases obj with
                  | true => exact ⟨34, _, rfl, rfl, by decide⟩
                  | false =>
                    rw [hx0c]
                    exact ⟨c0, _, rfl, starts_blank hc0, by simpa using (starts_ne hc0).1⟩
                obtain ⟨c1, r1, hcr, hb1, hne1⟩ := hnb
                have hsk3 : skipB s (p + 1) = p + 1 + (w0 ++ (if obj then [] else w3)).length := by
                  rw [hcr] at hdy2; exact skipB_over' hdy2 hb0 hb1
                have hd3 := drop_add hdy2
                have hpk3 : peek s (p + 1 + (w0 ++ (if obj then [] else w3)).length) = c1 := by rw [hcr] at hd3; exact peek_drop hd3
                have hlt3 : p + 1 + (w0 ++ (if obj then [] else w3)).length < s.length := by rw [hcr] at hd3; exact drop_lt hd3
                rw [hsk3, hpk3, if_neg hne1]
                have hlen0 : y.length = (w0 ++ (if obj then [] else w3)).length + ((if obj then jtext (ns.headD []) ++ (w2 ++ [58]) ++ w3 else []) ++ (x0 ++ z)).length := by
                  rw [hyy]; simp only [List.length_append]; omega
                have hb := parts_back s ks obj k0 ns d n (s.length + 1) (p + 1 + (w0 ++ (if obj then [] else w3)).length) (m + 1) [] [] [] w2 (if obj then w3 else []) x0 z r
                  (by omega) (by omega) (by cases obj <;> simp_all) hrk.1 hrk.2 hx0 hz Blanks.nil h2 (by cases obj; exact Blanks.nil; exact h3) (by omega) (by
                    rw [hd3]; cases obj <;> simp) (by simp only [nodes, nodesK] at hm ⊢; omega)
                rw [hb]
                have hnames : (if obj = true then [] ++ ns else []) = ns := by cases obj with
                  | true => simp
                  | false => simp [hn5 rfl]
                rw [hnames, ← hkk]
                simp only [List.nil_append, nodes, nodesK]
                refine congrArg Except.ok (Prod.ext rfl (Prod.ext ?_ ?_))
                · show _ + 1 = p + x.length
                  cases obj <;> simp at hlen0 ⊢ <;> omega
                · show m + 1 + nodes k0 + nodesK ks = m + (1 + (nodes k0 + nodesK ks))
                  omega
termination_by v => sizeOf v
decreasing_by
  all_goals (subst_vars; simp; omega)

theorem parts_back (s : Bytes) : ∀ (ks : List J) (obj : Bool) (k : J) (ns : List Bytes) (d n q i m : Nat) (on : List Bytes) (ok : List J) (w1 w2 w3 x z r : Bytes),
    s.length < i + n → s.length < i + q →
    (obj = true → ns.length = ks.length + 1 ∧ namesOk on ns = true) → right (d + 1) k = true → rightK (d + 1) ks = true → Shows k x → ShowsK obj false ns.tail ks z → Blanks w1 → Blanks w2 → Blanks w3 → i ≤ s.length →
    s.drop i = w1 ++ ((if obj then jtext (ns.headD []) ++ (w2 ++ [58]) else []) ++ (w3 ++ (x ++ (z ++ ((if obj then 125 else 93) :: r))))) → m + nodes k + nodesK ks ≤ 5000 →
    parts (fun i m => value s n (d + 1) i m) s obj q i m on ok =
      .ok (.mk (if obj then 6 else 5) false [] (if obj then on ++ ns else on) (ok ++ (k :: ks)), i + w1.length + ((if obj then jtext (ns.headD []) ++ (w2 ++ [58]) else []) ++ (w3 ++ (x ++ z))).length + 1, m + nodes k + nodesK ks)
  | ks, obj, k, ns, d, n, q, i, m, on, ok, w1, w2, w3, x, z, r, hn, hq, hns, hrk, hrks, hx, hz, hb1, h2, h3, hi, hd, hm => by
    obtain ⟨c, x', hxc, hc⟩ := shows_starts hrk hx
    cases q with
    | zero => omega
    | succ q =>
    -- the name, and the colon
    have h1 : ∃ (t : Bytes) (i1 : Nat) (w' : Bytes), (if obj = true then name s on i else Except.ok ([], i)) = .ok (t, i1) ∧
        i1 + w'.length = i + w1.length + (if obj then jtext (ns.headD []) ++ (w2 ++ [58]) else []).length + w3.length ∧
        (obj = true → t = ns.headD [] ∧ valid t = true ∧ t ∉ on) ∧ i ≤ i1 ∧ Blanks w' ∧ s.drop i1 = w' ++ (x ++ (z ++ ((if obj then 125 else 93) :: r))) := by
      cases obj with
      | false => exact ⟨[], i, w1 ++ w3, rfl, by simp; omega, by simp, by omega, hb1.append h3, by rw [hd]; simp⟩
      | true =>
        have hn := hns rfl
        cases ns with
        | nil => simp at hn
        | cons t ns =>
          simp only [namesOk, Bool.and_eq_true, Bool.not_eq_true', decide_eq_false_iff_not] at hn
          simp only [if_true, List.headD_cons, List.append_assoc] at hd ⊢
          have hd0 : s.drop i = w1 ++ (34 :: (esc t ++ ([34] ++ (w2 ++ ([58] ++ (w3 ++ (x ++ (z ++ 125 :: r)))))))) := by rw [hd]; simp [jtext]
          have hsk : skipB s i = i + w1.length := skipB_over' hd0 hb1 rfl
          have hd00 := drop_add hd
          have ht := text_back hn.2.1.1 hd00
          have hd1 := drop_add hd00
          have hsk1 : skipB s (i + w1.length + (jtext t).length) = i + w1.length + (jtext t).length + w2.length := skipB_over' (c := 58) hd1 h2 rfl
          have hd2 := drop_add hd1
          have hw : word s [58] (i + w1.length + (jtext t).length + w2.length) = .ok (i + w1.length + (jtext t).length + w2.length + 1) := word_back hd2
          refine ⟨t, _, w3, ?_, ?_, fun _ => ⟨rfl, hn.2.1.1, hn.2.1.2⟩, ?_, h3, drop_succ hd2⟩
          · unfold name
            rw [hsk, ht]; simp only
            rw [if_neg hn.2.1.2, hsk1, hw]
          · simp; omega
          · omega
    obtain ⟨t, i1, w', e1, hi1, ht, hle1, hw', hd1⟩ := h1
    have he : ends ((z ++ ((if obj then 125 else 93) :: r)).headD 0) := showsK_ends hz (by cases obj; exact ends_square; exact ends_curly)
    have e2 := value_back s k (d + 1) x hrk hx n i1 m w' (z ++ ((if obj then 125 else 93) :: r)) (by omega) hw' hd1 he (by omega)
    have hd2 := drop_add hd1
    have hd3 := drop_add hd2
    unfold parts
    rw [e1]; simp only
    rw [e2]; simp only
    have hnames : ∀ (nt : List Bytes), obj = true → ns = (ns.headD []) :: ns.tail := fun _ ho => by
      have := (hns ho).1
      cases ns with
      | nil => simp at this
      | cons a b => rfl
    have hlen : ((if obj then jtext (ns.headD []) ++ (w2 ++ [58]) else []) ++ (w3 ++ (x ++ z))).length = (if obj then jtext (ns.headD []) ++ (w2 ++ [58]) else []).length + w3.length + x.length + z.length := by
      simp only [List.length_append]; omega
    have hclb : isBlank (if obj = true then (125 : UInt8) else 93) = false := by cases obj <;> rfl
    cases ks with
    | nil =>
      have hzb : Blanks z := hz
      have hsk : skipB s (i1 + w'.length + x.length) = i1 + w'.length + x.length + z.length := skipB_over' hd3 hzb hclb
      have hd4 := drop_add hd3
      have hp := peek_drop hd4
      have hw : word s [if obj = true then 125 else 93] (i1 + w'.length + x.length + z.length) = .ok (i1 + w'.length + x.length + z.length + 1) := word_back (by rw [hd4]; rfl)
      rw [hsk, hp, if_neg (by cases obj <;> decide), hw]; simp only
      have hnn : (if obj = true then on ++ [t] else on) = (if obj = true then on ++ ns else on) := by
        cases obj with
        | false => rfl
        | true =>
          have h1 := hnames [] rfl
          have h2 := (hns rfl).1
          have h3 := (ht rfl).1
          simp only [if_true]
          rw [h1, h3]
          have : ns.tail = [] := by
            cases ns with
            | nil => rfl
            | cons a b => simpa using h2
          rw [this]
      rw [hnn]
      refine congrArg Except.ok (Prod.ext rfl (Prod.ext ?_ ?_))
      · show _ + 1 = _ + 1
        omega
      · simp [nodesK]
    | cons k' ks =>
      obtain ⟨w0, w1', w2', w3', x0, z', g0, g1, g2, g3, hzz, hx0, hz'⟩ := hz
      simp only [rightK, Bool.and_eq_true] at hrks
      obtain ⟨c0, r0, hx0c, hc0⟩ := shows_starts hrks.1 hx0
      rw [if_neg (by decide)] at hzz
      have hdz : s.drop (i1 + w'.length + x.length) = w0 ++ (44 :: (w1' ++ (((if obj then jtext (ns.tail.headD []) ++ (w2' ++ [58]) else []) ++ (w3' ++ (x0 ++ z'))) ++ ((if obj then 125 else 93) :: r)))) := by
        rw [hd3, hzz]; simp
      have hsk : skipB s (i1 + w'.length + x.length) = i1 + w'.length + x.length + w0.length := skipB_over' hdz g0 rfl
      have hd4 := drop_add hdz
      have hd5 := drop_succ hd4
      rw [hsk, peek_drop hd4, if_pos rfl]
      have hlt4 := drop_lt hd4
      have hns' : obj = true → ns.tail.length = ks.length + 1 ∧ namesOk (on ++ [t]) ns.tail = true := fun ho => by
        have h1 := hnames [] ho
        have h2 := hns ho
        have h3 := (ht ho).1
        rw [h1] at h2
        simp only [List.length_cons, namesOk, Bool.and_eq_true] at h2
        rw [← h3] at h2
        exact ⟨by omega, h2.2.2⟩
      have hb := parts_back s ks obj k' ns.tail d n q (i1 + w'.length + x.length + w0.length + 1) (m + nodes k) (if obj = true then on ++ [t] else on) (ok ++ [k]) w1' w2' w3' x0 z' r
        (by omega) (by omega) (fun ho => by subst ho; exact hns' rfl) hrks.1 hrks.2 hx0 hz' g1 g2 g3 (by omega) (by rw [hd5]; simp) (by simp only [nodesK] at hm; omega)
      rw [hb]
      have hnn : (if obj = true then (if obj = true then on ++ [t] else on) ++ ns.tail else (if obj = true then on ++ [t] else on)) = (if obj = true then on ++ ns else on) := by
        cases obj with
        | false => rfl
        | true =>
          have h1 := hnames [] rfl
          have h3 := (ht rfl).1
          simp only [if_true]
          conv => rhs; rw [h1]
          rw [h3]; simp
      rw [hnn]
      refine congrArg Except.ok (Prod.ext ?_ (Prod.ext ?_ ?_))
      · show J.mk _ _ _ _ _ = J.mk _ _ _ _ _
        simp
      · show _ + 1 = _ + 1
        rw [hzz] at hlen ⊢
        simp only [List.length_append, List.length_cons] at hlen ⊢
        omega
      · simp only [nodesK]; omega
termination_by ks _ k => sizeOf k + sizeOf ks
decreasing_by
  · have : 0 < sizeOf ks := by cases ks <;> simp <;> omega
    omega
  · subst_vars; simp; omega
end
end Cx
namespace Cx


/-! ### A text that goes on is read as it was -/
theorem peek_app {s t : Bytes} {i : Nat} (h : i < s.length) : peek (s ++ t) i = peek s i := by
  simp [peek, List.getD, List.getElem?_append_left h]
end Cx
