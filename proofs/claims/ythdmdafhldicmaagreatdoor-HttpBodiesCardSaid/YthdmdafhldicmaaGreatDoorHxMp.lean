/- A method, a path, letters: as the statements make them of raw texts. -/
import Derived.Test.YthdmdafhldicmaaGreatDoorHxPut
namespace Hx
def mB (c : UInt8) : UInt8 := UInt8.ofNat (65 + c.toNat % 26)
def pB (c : UInt8) : UInt8 := UInt8.ofNat (33 + c.toNat % 94)
def methodOf (s : Bytes) : Bytes := if s = [] then [71, 69, 84] else (s.take 10).map mB
def pathOf (s : Bytes) : Bytes := 47 :: (s.take 300).map pB
theorem mB_nat (c : UInt8) : (mB c).toNat = 65 + c.toNat % 26 := by
  unfold mB; rw [UInt8.toNat_ofNat_of_lt' (by have := Nat.mod_lt c.toNat (show 26 > 0 by decide); show _ < 256; omega)]
theorem pB_nat (c : UInt8) : (pB c).toNat = 33 + c.toNat % 94 := by
  unfold pB; rw [UInt8.toNat_ofNat_of_lt' (by have := Nat.mod_lt c.toNat (show 94 > 0 by decide); show _ < 256; omega)]
theorem methodOf_ok (s : Bytes) : methodOf s ≠ [] ∧ (methodOf s).length ≤ 10 ∧ (methodOf s).all capital = true := by
  unfold methodOf
  split
  · exact ⟨by simp, by decide, by decide⟩
  · rename_i h
    refine ⟨fun h2 => ?_, by rw [List.length_map]; exact List.length_take_le _ _, ?_⟩
    · rw [List.map_eq_nil_iff, List.take_eq_nil_iff] at h2
      rcases h2 with h2 | h2
      · cases h2
      · exact h h2
    · rw [List.all_eq_true]
      intro x hx
      obtain ⟨c, _, rfl⟩ := List.mem_map.1 hx
      have := mB_nat c
      have := Nat.mod_lt c.toNat (show 26 > 0 by decide)
      simp only [capital, Bool.and_eq_true, decide_eq_true_eq, UInt8.le_iff_toNat_le, UInt8.reduceToNat]
      omega
theorem pathOf_ok (s : Bytes) : (pathOf s).head? = some 47 ∧ (pathOf s).length ≤ 301 ∧ (pathOf s).all visible = true := by
  unfold pathOf
  refine ⟨rfl, by have : (s.take 300).length ≤ 300 := List.length_take_le _ _
                  simp only [List.length_cons, List.length_map]; omega, ?_⟩
  rw [List.all_cons, Bool.and_eq_true]
  refine ⟨by decide, ?_⟩
  rw [List.all_eq_true]
  intro x hx
  obtain ⟨c, _, rfl⟩ := List.mem_map.1 hx
  have := pB_nat c
  have := Nat.mod_lt c.toNat (show 94 > 0 by decide)
  simp only [visible, Bool.and_eq_true, decide_eq_true_eq, UInt8.le_iff_toNat_le, UInt8.lt_iff_toNat_lt, UInt8.reduceToNat]
  omega
end Hx
