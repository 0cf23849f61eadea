/- WALKS: the law DslLines. -/
import Derived.Test.YtejlddimokmgjaaGreatDoorYDpg
import Derived.Test.YtejlddimokmgjaaGreatDoorYDap
namespace Go.Proofs.YtejlddimokmgjaaGreatDoor
open Go.RowKit

theorem bulkL_length : ∀ (l : List (List UInt8)) (x : List Dx.Op), Dx.bulkL l = .ok x → x.length ≤ l.length
  | [], x, h => by injection h with h; subst h; exact Nat.le_refl _
  | a :: l, x, h => by
    have ih := bulkL_length l
    unfold Dx.bulkL at h
    split at h
    · exact Nat.le_succ_of_le (ih x h)
    · split at h
      · cases h
      · split at h
        · cases h
        · split at h
          · cases h
          · rename_i t he
            injection h with h; subst h
            have := ih _ he
            simp; omega
theorem bulk_length {s : List UInt8} {x : List Dx.Op} (h : Dx.bulk s = .ok x) : x.length ≤ s.length + 1 := Nat.le_trans (bulkL_length _ x h) (lines_length s)
end Go.Proofs.YtejlddimokmgjaaGreatDoor
