/- The plain model of package http's reader: functions on lists of bytes; no program in sight. -/
namespace Hx

abbrev Bytes := List UInt8

/-- The part ahead of a byte, and the part behind it, if the byte is there. -/
def cut (c : UInt8) (s : Bytes) : Option (Bytes × Bytes) :=
  if c ∈ s then some (s.take (s.idxOf c), s.drop (s.idxOf c + 1)) else none
/-- The part ahead of a byte; all, if it is not there. -/
def ahead (c : UInt8) (s : Bytes) : Bytes := s.take (s.idxOf c)
def behind (c : UInt8) (s : Bytes) : Bytes := s.drop (s.idxOf c + 1)

/-- A line without its end: a byte 13 behind it, none within. -/
def lineText (l : Bytes) : Option Bytes := if l.getLast? = some 13 ∧ 13 ∉ l.dropLast then some l.dropLast else none

/-- The next line from a place on, whose end lies ahead of another: its text, its status, the place behind it. -/
def line (s : Bytes) (i most : Nat) : Bytes × Nat × Nat :=
  let t := (s.drop i).take (max most i - i)
  if 10 ∈ t then
    match lineText (ahead 10 t) with
    | some l => (l, 200, i + t.idxOf 10 + 1)
    | none => ([], 400, i + t.idxOf 10 + 1)
  else if most < s.length then ([], 431, i)
  else ([], 0, i)

def capital (c : UInt8) : Bool := decide (65 ≤ c) && decide (c ≤ 90)
def digit (c : UInt8) : Bool := decide (48 ≤ c) && decide (c ≤ 57)
def visible (c : UInt8) : Bool := decide (32 < c) && decide (c ≤ 126)
def valued (c : UInt8) : Bool := visible c || c == 32 || c == 9 || decide (128 ≤ c)
def small (c : UInt8) : Bool := decide (97 ≤ c) && decide (c ≤ 122)
def marks : Bytes := [33, 35, 36, 37, 38, 39, 42, 43, 45, 46, 94, 95, 96, 124, 126]
def tokened (c : UInt8) : Bool := digit c || capital c || small c || decide (c ∈ marks)

def lowerB (c : UInt8) : UInt8 := if capital c then c ||| 32 else c
def lower (s : Bytes) : Bytes := s.map lowerB

def isBlank (c : UInt8) : Bool := c == 32 || c == 9
/-- Without blanks at its ends. -/
def trim (s : Bytes) : Bytes := ((s.reverse.dropWhile isBlank).reverse).dropWhile isBlank

/-- The parts between commas. -/
def splitN : Nat → Bytes → List Bytes
  | 0, s => [s]
  | n + 1, s => if 44 ∈ s then ahead 44 s :: splitN n (behind 44 s) else [s]
def split (s : Bytes) : List Bytes := splitN (s.count 44) s

def tHost : Bytes := [104, 111, 115, 116]
def tConnection : Bytes := [99, 111, 110, 110, 101, 99, 116, 105, 111, 110]
def tClose : Bytes := [99, 108, 111, 115, 101]
def tLength : Bytes := [99, 111, 110, 116, 101, 110, 116, 45, 108, 101, 110, 103, 116, 104]
def tEncoding : Bytes := [116, 114, 97, 110, 115, 102, 101, 114, 45, 101, 110, 99, 111, 100, 105, 110, 103]
def tChunked : Bytes := [99, 104, 117, 110, 107, 101, 100]

/-- The fields of a head: names, values, is it to be closed? -/
structure F where
  names : List Bytes
  values : List Bytes
  close : Bool

def F.nil : F := ⟨[], [], false⟩
def closes (v : Bytes) : Bool := (split v).any fun p => decide (lower (trim p) = tClose)

/-- A line is read as a field. -/
def field (f : F) (l : Bytes) : Option F :=
  if 58 ∈ l ∧ ahead 58 l ≠ [] ∧ (ahead 58 l).all tokened = true ∧ (behind 58 l).all valued = true then
    some ⟨f.names ++ [lower (ahead 58 l)], f.values ++ [trim (behind 58 l)], f.close || (decide (lower (ahead 58 l) = tConnection) && closes (trim (behind 58 l)))⟩
  else none

/-- Lines up to an empty one: the fields, the status, the place behind. The first number: fuel. -/
def fieldsN (s : Bytes) (most : Nat) : Nat → F → Nat → Option F × Nat × Nat
  | 0, _, i => (none, 0, i)
  | n + 1, f, i =>
    match line s i most with
    | (l, e, j) =>
      if e ≠ 200 then (none, e, j)
      else if l = [] then (some f, 200, j)
      else match field f l with
        | none => (none, 400, j)
        | some g => fieldsN s most n g j
def fields (s : Bytes) (i most : Nat) : Option F × Nat × Nat := fieldsN s most (s.length + 1 - i) F.nil i

def count (f : F) (n : Bytes) : Nat := (f.names.filter fun m => decide (m = n)).length
/-- The last value of a name. -/
def lastOf : List Bytes → List Bytes → Bytes → Bytes
  | [], _, _ => []
  | m :: ns, vs, n => if n ∈ ns then lastOf ns vs.tail n else if m = n then vs.headD [] else []
def F.value (f : F) (n : Bytes) : Bytes := lastOf f.names f.values n

def decN : Bytes → Nat → Nat
  | [], a => a
  | c :: l, a => decN l (a * 10 + (c.toNat - 48))
/-- How long the body is; none: it is in chunks. The status. -/
def length (f : F) : Option Nat × Nat :=
  let n := count f tLength
  let c := count f tEncoding
  if count f tHost ≠ 1 ∨ 1 < n ∨ 1 < c ∨ (n = 1 ∧ c = 1) then (some 0, 400)
  else if c = 1 ∧ lower (f.value tEncoding) = tChunked then (none, 200)
  else if c = 1 then (some 0, 400)
  else if n = 0 then (some 0, 200)
  else
    let s := f.value tLength
    if s = [] ∨ 9 < s.length ∨ s.all digit = false then (some 0, 400)
    else if 8000 < decN s 0 then (some 0, 413)
    else (some (decN s 0), 200)

def hexv (c : UInt8) : Option Nat :=
  if 48 ≤ c.toNat ∧ c.toNat ≤ 57 then some (c.toNat - 48)
  else if 97 ≤ c.toNat ∧ c.toNat ≤ 102 then some (c.toNat - 87)
  else if 65 ≤ c.toNat ∧ c.toNat ≤ 70 then some (c.toNat - 55)
  else none
def hexN : Bytes → Nat → Option Nat
  | [], a => some a
  | c :: l, a => match hexv c with
    | none => none
    | some d => hexN l (a * 16 + d)
/-- A chunk's size, of its line. -/
def size (l : Bytes) : Option Nat :=
  let s := ahead 59 l
  if s ≠ [] ∧ s.length ≤ 8 ∧ (behind 59 l).all valued = true then hexN s 0 else none

/-- The body in chunks: what it is, the status, the place behind. The first number: fuel. -/
def chunksN (s : Bytes) : Nat → Bytes → Nat → Bytes × Nat × Nat
  | 0, _, i => ([], 0, i)
  | n + 1, acc, i =>
    match line s i (i + 100) with
    | (l, e, j) =>
      if e = 431 then ([], 400, j)
      else if e ≠ 200 then ([], e, j)
      else match size l with
        | none => ([], 400, j)
        | some k =>
          if 8000 < k + acc.length then ([], 413, j)
          else if k = 0 then
            match fields s j (j + 2000) with
            | (_, e, h) => (acc, if e = 431 then 400 else e, h)
          else
            let t := ((s.drop (j + k)).take 2)
            if t.isPrefixOf [13, 10] = false then ([], 400, j)
            else if t.length < 2 then ([], 0, j)
            else chunksN s n (acc ++ (s.drop j).take k) (j + k + 2)
def chunks (s : Bytes) (i : Nat) : Bytes × Nat × Nat := chunksN s (s.length + 1 - i) [] i

structure Q where
  method : Bytes
  path : Bytes
  body : Bytes
  close : Bool
def Q.nil : Q := ⟨[], [], [], false⟩

def tVersion : Bytes := [32, 72, 84, 84, 80, 47, 49, 46, 49]
/-- The first line: method and path. -/
def first (l : Bytes) : Option (Bytes × Bytes) :=
  let m := ahead 32 l
  let r := behind 32 l
  let p := r.take (r.length - 9)
  if 32 ∈ l ∧ tVersion.isSuffixOf r = true ∧ m ≠ [] ∧ m.length ≤ 10 ∧ m.all capital = true ∧ p.head? = some 47 ∧ p.all visible = true then some (m, p) else none

/-- Past empty lines, to the first that is not. -/
def topN (s : Bytes) : Nat → Nat → Bytes × Nat × Nat
  | 0, i => ([], 0, i)
  | n + 1, i =>
    match line s i 2000 with
    | (l, e, j) => if l = [] ∧ e = 200 then topN s n j else (l, e, j)

/-- The first request of some bytes, how many it has, its status; 0: more are needed. -/
def read (s : Bytes) : Q × Nat × Nat :=
  match topN s (s.length + 1) 0 with
  | (l, e, i) =>
    if e ≠ 200 then (Q.nil, 0, e)
    else match first l with
      | none => (Q.nil, 0, 400)
      | some (m, p) =>
        match fields s i 2000 with
        | (none, e, _) => (Q.nil, 0, e)
        | (some f, _, j) =>
          match length f with
          | (none, _) =>
            match chunks s j with
            | (b, e, k) => if e = 200 then (⟨m, p, b, f.close⟩, k, 200) else (Q.nil, 0, e)
          | (some n, e) =>
            if e ≠ 200 then (Q.nil, 0, e)
            else if s.length - j < n then (Q.nil, 0, 0)
            else (⟨m, p, (s.drop j).take n, f.close⟩, j + n, 200)

end Hx
