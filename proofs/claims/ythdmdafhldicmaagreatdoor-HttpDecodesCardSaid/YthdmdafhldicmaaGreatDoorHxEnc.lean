/- A text of which each byte is written as a percent sign and two digits. -/
import Derived.Test.YthdmdafhldicmaaGreatDoorHxDe
import Derived.Test.YthdmdafhldicmaaGreatDoorHxPut
namespace Hx
def hexD (u : Nat) : UInt8 := if u < 10 then UInt8.ofNat (48 + u) else UInt8.ofNat (55 + u)
def enc3 (c : UInt8) : Bytes := [37, hexD (c.toNat / 16), hexd (c.toNat % 16)]
def enc (s : Bytes) : Bytes := s.flatMap enc3
theorem enc_snoc (s : Bytes) (c : UInt8) : enc (s ++ [c]) = enc s ++ enc3 c := by simp [enc]
theorem enc_len (s : Bytes) : (enc s).length = 3 * s.length := by
  induction s with
  | nil => rfl
  | cons c s ih =>
    have : enc (c :: s) = enc3 c ++ enc s := by simp [enc]
    rw [this, List.length_append, ih]; simp only [enc3, List.length_cons, List.length_nil]; omega
theorem hexv_hexD : ∀ v : Fin 16, hexv (hexD v.val) = some v.val := by decide
theorem decode_enc (s : Bytes) : decode (enc s) = some s := by
  induction s with
  | nil => exact decode_nil
  | cons c s ih =>
    have e : enc (c :: s) = 37 :: hexD (c.toNat / 16) :: hexd (c.toNat % 16) :: enc s := by simp [enc, enc3]
    have hc := c.toNat_lt
    have h1 := hexv_hexD ⟨c.toNat / 16, by omega⟩
    have h2 := hexv_hexd ⟨c.toNat % 16, by omega⟩
    simp only at h1 h2
    rw [e, decode_two, h1, h2]
    simp only
    rw [ih]
    simp only [Option.map_some]
    congr 2
    rw [show c.toNat / 16 * 16 + c.toNat % 16 = c.toNat by omega]
    exact UInt8.ofNat_toNat
theorem decode_plain {s : Bytes} (h : (37 : UInt8) ∉ s) : decode s = some s := by
  have := decode_app h []
  rw [List.append_nil, decode_nil] at this
  simpa using this
end Hx
