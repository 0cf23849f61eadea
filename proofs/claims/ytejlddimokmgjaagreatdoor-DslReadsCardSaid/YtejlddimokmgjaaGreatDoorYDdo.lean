/- WALKS: Doc, Line: a document's JSON, an op's. -/
import Derived.Test.YtejlddimokmgjaaGreatDoorKk
import Derived.Test.YtejlddimokmgjaaGreatDoorKc
import Derived.Deep.RegionHeld3
namespace Go.Proofs.YtejlddimokmgjaaGreatDoor
open Go.RowKit

theorem size_arr (l : List UInt8) : (⟨l.toArray⟩ : ByteArray).size = l.length := by simp [ByteArray.size]
end Go.Proofs.YtejlddimokmgjaaGreatDoor
