/- The plain model of the printer of package json, and what a right value is. -/
import Derived.Test.YthdmdafhldicmaaGreatDoorCxModel
namespace Cx

def lowHex (n : UInt8) : UInt8 := if n < 10 then 48 + n else 87 + n

/-- A byte of a text, as it is written. -/
def escB (c : UInt8) : Bytes :=
  if c = 34 then [92, 34] else if c = 92 then [92, 92] else if c = 8 then [92, 98] else if c = 12 then [92, 102]
  else if c = 10 then [92, 110] else if c = 13 then [92, 114] else if c = 9 then [92, 116]
  else if c < 32 then [92, 117, 48, 48, lowHex (c >>> 4), lowHex (c &&& 15)] else [c]
def esc (t : Bytes) : Bytes := t.flatMap escB
def jtext (t : Bytes) : Bytes := 34 :: (esc t ++ [34])

mutual
/-- A right value, as it is written. -/
def pr : J → Bytes
  | .mk k is t ns ks =>
    if k = 1 then [110, 117, 108, 108]
    else if k = 2 then (if is then [116, 114, 117, 101] else [102, 97, 108, 115, 101])
    else if k = 3 then t
    else if k = 4 then jtext t
    else if k = 6 then 123 :: (prK true true ns ks ++ [125])
    else 91 :: (prK false true ns ks ++ [93])
/-- The parts of a list or an object, from one on; is it the first? -/
def prK (obj : Bool) : Bool → List Bytes → List J → Bytes
  | _, _, [] => []
  | first, ns, k :: ks => (if first then [] else [44]) ++ ((if obj then jtext (ns.headD []) ++ [58] else []) ++ (pr k ++ prK obj false ns.tail ks))
end

mutual
/-- How many nodes a value has. -/
def nodes : J → Nat
  | .mk _ _ _ _ ks => 1 + nodesK ks
def nodesK : List J → Nat
  | [] => 0
  | k :: ks => nodes k + nodesK ks
end

def isNum (t : Bytes) : Prop := number t 0 = .ok t.length
instance (t : Bytes) : Decidable (isNum t) := by
  unfold isNum
  cases h : number t 0 with
  | error e => exact isFalse (by simp)
  | ok n => exact if e : n = t.length then isTrue (by rw [e]) else isFalse (by simpa using e)

/-- Are all valid, and each another one? -/
def namesOk : List Bytes → List Bytes → Bool
  | _, [] => true
  | old, s :: l => valid s && !decide (s ∈ old) && namesOk (old ++ [s]) l

mutual
/-- Is a value right, within so many lists and objects? -/
def right : Nat → J → Bool
  | d, .mk k is t ns ks =>
    if k = 1 then !is && decide (t = []) && decide (ns = []) && ks.isEmpty
    else if k = 2 then decide (t = []) && decide (ns = []) && ks.isEmpty
    else if k = 3 then !is && decide (ns = []) && ks.isEmpty && decide (isNum t)
    else if k = 4 then !is && decide (ns = []) && ks.isEmpty && valid t
    else if k = 5 then decide (ns = []) && decide (t = []) && !is && decide (d < 20) && rightK (d + 1) ks
    else if k = 6 then decide (ns.length = ks.length) && namesOk [] ns && decide (t = []) && !is && decide (d < 20) && rightK (d + 1) ks
    else false
def rightK : Nat → List J → Bool
  | _, [] => true
  | d, k :: ks => right d k && rightK d ks
end

def Right (v : J) : Bool := decide (nodes v ≤ 5000) && right 0 v
def print (v : J) : Bytes := if Right v then pr v else []

/-- The empty value. -/
def nil : J := .mk 0 false [] [] []

end Cx
