/- The plain model of the parser of package json: functions on lists of bytes; no program in sight. -/
namespace Cx

abbrev Bytes := List UInt8

/-- A JSON value as data. -/
inductive J where
  | mk (kind : Int) (is : Bool) (text : Bytes) (names : List Bytes) (kids : List J)

namespace J
def kind : J → Int | .mk k _ _ _ _ => k
def is : J → Bool | .mk _ b _ _ _ => b
def text : J → Bytes | .mk _ _ t _ _ => t
def names : J → List Bytes | .mk _ _ _ n _ => n
def kids : J → List J | .mk _ _ _ _ k => k
end J

/-- What a reader comes to: a value, or a fault: which, and where. -/
abbrev Res (α : Type) := Except (Nat × Nat) α

def isBlank (c : UInt8) : Bool := c == 32 || c == 9 || c == 10 || c == 13
def isDig (c : UInt8) : Bool := decide (48 ≤ c) && decide (c ≤ 57)

def skipB (s : Bytes) (i : Nat) : Nat := i + ((s.drop i).takeWhile isBlank).length
def skipD (s : Bytes) (i : Nat) : Nat := i + ((s.drop i).takeWhile isDig).length

/-- The byte that stands at a place; 0 behind the end. -/
def peek (s : Bytes) (i : Nat) : UInt8 := s.getD i 0

def digits (s : Bytes) (i : Nat) : Res Nat := if skipD s i = i then .error (7, i) else .ok (skipD s i)

/-- Past one of some bytes, if it stands next. -/
def opt (s : Bytes) (l : Bytes) (i : Nat) : Nat := if peek s i ∈ l then i + 1 else i

def numInt (s : Bytes) (i : Nat) : Res Nat := if opt s [48] i = i then digits s i else .ok (i + 1)
def numFrac (s : Bytes) (i : Nat) : Res Nat := if opt s [46] i = i then .ok i else digits s (i + 1)
def numExp (s : Bytes) (i : Nat) : Res Nat := if opt s [101, 69] i = i then .ok i else digits s (opt s [43, 45] (i + 1))

/-- The end of the number that begins at a place. -/
def number (s : Bytes) (i : Nat) : Res Nat :=
  match numInt s (opt s [45] i) with
  | .error e => .error e
  | .ok a => match numFrac s a with
    | .error e => .error e
    | .ok b => match numExp s b with
      | .error e => .error e
      | .ok c => if c - i > 40 then .error (5, i) else .ok c

def hexv (c : UInt8) : Option Nat :=
  if 48 ≤ c.toNat ∧ c.toNat ≤ 57 then some (c.toNat - 48)
  else if 97 ≤ c.toNat ∧ c.toNat ≤ 102 then some (c.toNat - 87)
  else if 65 ≤ c.toNat ∧ c.toNat ≤ 70 then some (c.toNat - 55)
  else none

/-- The number that four hexadecimal digits say. -/
def hex4 : Bytes → Option Nat
  | [a, b, c, d] => match hexv a, hexv b, hexv c, hexv d with
    | some a, some b, some c, some d => some (((a * 16 + b) * 16 + c) * 16 + d)
    | _, _, _, _ => none
  | _ => none

/-- What four digits behind a backslash and u say at a place. -/
def unit (s : Bytes) (i : Nat) : Option Nat :=
  match s.drop i with
  | 92 :: 117 :: a :: b :: c :: d :: _ => hex4 [a, b, c, d]
  | _ => none

/-- The bytes of a rune. -/
def enc (r : Nat) : Bytes :=
  if r < 0x80 then [UInt8.ofNat r]
  else if r < 0x800 then [UInt8.ofNat (0xC0 + r / 64), UInt8.ofNat (0x80 + r % 64)]
  else if r < 0x10000 then [UInt8.ofNat (0xE0 + r / 4096), UInt8.ofNat (0x80 + r / 64 % 64), UInt8.ofNat (0x80 + r % 64)]
  else [UInt8.ofNat (0xF0 + r / 262144), UInt8.ofNat (0x80 + r / 4096 % 64), UInt8.ofNat (0x80 + r / 64 % 64), UInt8.ofNat (0x80 + r % 64)]

/-- What a backslash and one sign behind it say. -/
def simple (c : UInt8) : Option UInt8 :=
  if c = 34 then some 34 else if c = 92 then some 92 else if c = 47 then some 47 else if c = 98 then some 8
  else if c = 102 then some 12 else if c = 110 then some 10 else if c = 114 then some 13 else if c = 116 then some 9 else none

/-- An escape that begins at a place: what it says, and where it ends. -/
def escape (s : Bytes) (i : Nat) : Res (Bytes × Nat) :=
  match (s[i+1]?).bind simple with
  | some x => .ok ([x], i + 2)
  | none => match unit s i with
    | none => .error (7, i)
    | some v =>
      if 0xD800 ≤ v ∧ v < 0xDC00 then
        match unit s (i + 6) with
        | none => .error (7, i)
        | some low => if 0xDC00 ≤ low ∧ low < 0xE000 then .ok (enc (0x10000 + (v - 0xD800) * 1024 + (low - 0xDC00)), i + 12) else .error (7, i)
      else if 0xD800 ≤ v ∧ v < 0xE000 then .error (7, i) else .ok (enc v, i + 6)

def cont (c : UInt8) : Bool := decide (128 ≤ c) && decide (c ≤ 191)
/-- How many bytes the rune has that a text begins with; 0: none. (A byte behind the end is read as 0, which goes on with no rune.) -/
def runeLenC (a : UInt8) (l : Bytes) : Nat :=
  if a < 128 then 1
  else if 194 ≤ a ∧ a ≤ 223 then (if cont (l.getD 0 0) = true then 2 else 0)
  else if 224 ≤ a ∧ a ≤ 239 then (if cont (l.getD 0 0) = true ∧ cont (l.getD 1 0) = true ∧ (a = 224 → 160 ≤ l.getD 0 0) ∧ (a = 237 → l.getD 0 0 ≤ 159) then 3 else 0)
  else if 240 ≤ a ∧ a ≤ 244 then (if cont (l.getD 0 0) = true ∧ cont (l.getD 1 0) = true ∧ cont (l.getD 2 0) = true ∧ (a = 240 → 144 ≤ l.getD 0 0) ∧ (a = 244 → l.getD 0 0 ≤ 143) then 4 else 0)
  else 0
def runeLen : Bytes → Nat
  | [] => 0
  | a :: l => runeLenC a l

/-- Is a text valid? -/
def validN : Nat → Bytes → Bool
  | _, [] => true
  | 0, _ => false
  | n + 1, l => decide (runeLen l ≠ 0) && validN n (l.drop (runeLen l))
def valid (l : Bytes) : Bool := validN l.length l

/-- A text, behind its quote: what it says, and the place behind its end. -/
def textN (s : Bytes) : Nat → Nat → Bytes → Res (Bytes × Nat)
  | 0, i, _ => .error (7, i)
  | n + 1, i, acc =>
    if peek s i < 32 then .error (7, i)
    else if peek s i = 34 then .ok (acc, i + 1)
    else if peek s i = 92 then
      match escape s i with
      | .error e => .error e
      | .ok (b, j) => textN s n j (acc ++ b)
    else if runeLen (s.drop i) = 0 then .error (17, i)
    else textN s n (i + runeLen (s.drop i)) (acc ++ (s.drop i).take (runeLen (s.drop i)))
def text (s : Bytes) (i : Nat) : Res (Bytes × Nat) :=
  if peek s i = 34 then textN s (s.length - i) (i + 1) [] else .error (7, i)

/-- Past the bytes of a word that must stand there. -/
def word (s : Bytes) : Bytes → Nat → Res Nat
  | [], i => .ok i
  | c :: w, i => if peek s i = c then word s w (i + 1) else .error (7, i)

/-- A name, and the colon behind it. -/
def name (s : Bytes) (l : List Bytes) (i : Nat) : Res (Bytes × Nat) :=
  match text s (skipB s i) with
  | .error e => .error e
  | .ok (t, j) =>
    if t ∈ l then .error (11, skipB s i)
    else match word s [58] (skipB s j) with
      | .error e => .error e
      | .ok k => .ok (t, k)

def starts (c : UInt8) : Bool := decide (c ∈ [110, 116, 102, 34, 91, 123, 45, 48, 49, 50, 51, 52, 53, 54, 55, 56, 57])

/-- The parts of a list or an object. -/
def parts (val : Nat → Nat → Res (J × Nat × Nat)) (s : Bytes) (obj : Bool) : Nat → Nat → Nat → List Bytes → List J → Res (J × Nat × Nat)
  | 0, i, _, _, _ => .error (7, i)
  | n + 1, i, m, names, kids =>
    match (if obj then name s names i else .ok ([], i)) with
    | .error e => .error e
    | .ok (t, i1) =>
      match val i1 m with
      | .error e => .error e
      | .ok (k, i2, m2) =>
        if peek s (skipB s i2) = 44 then parts val s obj n (skipB s i2 + 1) m2 (if obj then names ++ [t] else names) (kids ++ [k])
        else match word s [if obj then 125 else 93] (skipB s i2) with
          | .error e => .error e
          | .ok j => .ok (.mk (if obj then 6 else 5) false [] (if obj then names ++ [t] else names) (kids ++ [k]), j, m2)

def group (val : Nat → Nat → Res (J × Nat × Nat)) (s : Bytes) (obj : Bool) (i m : Nat) : Res (J × Nat × Nat) :=
  if peek s (skipB s (i + 1)) = (if obj then 125 else 93) then .ok (.mk (if obj then 6 else 5) false [] [] [], skipB s (i + 1) + 1, m)
  else parts val s obj (s.length + 1) (skipB s (i + 1)) m [] []

/-- A value, within so many lists and objects: what it is, the place behind it, how many values began. The first number: fuel. -/
def value (s : Bytes) : Nat → Nat → Nat → Nat → Res (J × Nat × Nat)
  | 0, _, i, _ => .error (7, i)
  | n + 1, deep, i, m =>
    let j := skipB s i
    let c := peek s j
    if starts c = false then .error (7, j)
    else if 5000 ≤ m then .error (6, j)
    else if c = 110 then match word s [110, 117, 108, 108] j with
      | .error e => .error e
      | .ok k => .ok (.mk 1 false [] [] [], k, m + 1)
    else if c = 116 then match word s [116, 114, 117, 101] j with
      | .error e => .error e
      | .ok k => .ok (.mk 2 true [] [] [], k, m + 1)
    else if c = 102 then match word s [102, 97, 108, 115, 101] j with
      | .error e => .error e
      | .ok k => .ok (.mk 2 false [] [] [], k, m + 1)
    else if c = 34 then match text s j with
      | .error e => .error e
      | .ok (t, k) => .ok (.mk 4 false t [] [], k, m + 1)
    else if c = 91 ∨ c = 123 then
      if deep = 20 then .error (16, j) else group (fun i m => value s n (deep + 1) i m) s (c = 123) j (m + 1)
    else match number s j with
      | .error e => .error e
      | .ok k => .ok (.mk 3 false ((s.drop j).take (k - j)) [] [], k, m + 1)

def parse (s : Bytes) : Res J :=
  if 100000 < s.length then .error (5, 0)
  else match value s (s.length + 1) 0 0 0 with
    | .error e => .error e
    | .ok (v, i, _) => if skipB s i < s.length then .error (7, skipB s i) else .ok v

end Cx
