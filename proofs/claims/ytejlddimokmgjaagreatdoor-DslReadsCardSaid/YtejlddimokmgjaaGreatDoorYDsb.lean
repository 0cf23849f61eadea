/- WALKS: the law's helper short. -/
import Derived.Test.YtejlddimokmgjaaGreatDoorYDsa
import Derived.Test.YtejlddimokmgjaaGreatDoorYDdo
namespace Go.Proofs.YtejlddimokmgjaaGreatDoor
open Go.RowKit

mutual
/-- Has a query short texts and lists? -/
def short : Dx.Qy → Bool
  | .mk _ t a b c => decide (t.length ≤ 1000) && ((decide (a.length ≤ 300) && shortK a) && ((decide (b.length ≤ 300) && shortK b) && (decide (c.length ≤ 300) && shortK c)))
def shortK : List Dx.Qy → Bool
  | [] => true
  | q :: l => short q && shortK l
end
end Go.Proofs.YtejlddimokmgjaaGreatDoor
