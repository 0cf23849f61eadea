/- Responses: the plain words. -/
import Derived.Test.YthdmdafhldicmaaGreatDoorHxModel
namespace Hx
/-- A number's decimal digits. -/
def dec (u : Nat) : Bytes :=
  if h : u < 10 then [UInt8.ofNat (48 + u)] else dec (u / 10) ++ [UInt8.ofNat (48 + u % 10)]
termination_by u
decreasing_by omega
theorem dec_lt {u : Nat} (h : u < 10) : dec u = [UInt8.ofNat (48 + u)] := by rw [dec, dif_pos h]
theorem dec_ge {u : Nat} (h : ¬ u < 10) : dec u = dec (u / 10) ++ [UInt8.ofNat (48 + u % 10)] := by rw [dec, dif_neg h]
theorem dec_len : ∀ (k u : Nat), u < 10 ^ (k + 1) → (dec u).length ≤ k + 1
  | 0, u, h => by rw [dec_lt (by simpa using h)]; simp
  | k + 1, u, h => by
    by_cases h10 : u < 10
    · rw [dec_lt h10]; simp
    · rw [dec_ge h10, List.length_append]
      have := dec_len k (u / 10) (by
        rw [Nat.div_lt_iff_lt_mul (by decide)]
        rw [Nat.pow_succ] at h
        exact h)
      simp only [List.length_cons, List.length_nil]
      omega
def reason (n : Int) : Bytes :=
  if n = 200 then [79, 75]
  else if n = 400 then [66, 97, 100, 32, 82, 101, 113, 117, 101, 115, 116]
  else if n = 404 then [78, 111, 116, 32, 70, 111, 117, 110, 100]
  else if n = 405 then [77, 101, 116, 104, 111, 100, 32, 78, 111, 116, 32, 65, 108, 108, 111, 119, 101, 100]
  else if n = 413 then [67, 111, 110, 116, 101, 110, 116, 32, 84, 111, 111, 32, 76, 97, 114, 103, 101]
  else if n = 431 then [82, 101, 113, 117, 101, 115, 116, 32, 72, 101, 97, 100, 101, 114, 32, 70, 105, 101, 108, 100, 115, 32, 84, 111, 111, 32, 76, 97, 114, 103, 101]
  else if n = 507 then [73, 110, 115, 117, 102, 102, 105, 99, 105, 101, 110, 116, 32, 83, 116, 111, 114, 97, 103, 101]
  else [85, 110, 107, 110, 111, 119, 110]
theorem reason_len (n : Int) : (reason n).length ≤ 31 := by
  unfold reason
  repeat' split
  all_goals decide
/-- 'HTTP/1.1 ', 'Content-Length: ', the second line, 'Connection: close'. -/
def pHttp : Bytes := [72, 84, 84, 80, 47, 49, 46, 49, 32]
def pLen : Bytes := [67, 111, 110, 116, 101, 110, 116, 45, 76, 101, 110, 103, 116, 104, 58, 32]
def pType : Bytes := [67, 111, 110, 116, 101, 110, 116, 45, 84, 121, 112, 101, 58, 32, 97, 112, 112, 108, 105, 99, 97, 116, 105, 111, 110, 47, 106, 115, 111, 110]
def pClose : Bytes := [67, 111, 110, 110, 101, 99, 116, 105, 111, 110, 58, 32, 99, 108, 111, 115, 101]
def crlf : Bytes := [13, 10]
/-- A response's bytes. -/
def write (st : Nat) (body : Bytes) (close : Bool) : Bytes :=
  pHttp ++ dec st ++ [32] ++ reason st ++ crlf ++ pType ++ crlf ++ (pLen ++ dec body.length) ++ (if close then crlf ++ pClose else []) ++ [13, 10, 13, 10] ++ body
end Hx
