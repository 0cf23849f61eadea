/- WALKS: the law DslPages. -/
import Derived.Test.YtejlddimokmgjaaGreatDoorKl
import Derived.Test.YtejlddimokmgjaaGreatDoorKc
namespace Go.Proofs.YtejlddimokmgjaaGreatDoor
open Go.RowKit

/-- What a law comes to. -/
def LawPost (w : World) (e : Ending) (w' : World) : Prop := e = .returned (.bool true) ∧ Below w.heap.size w w'
theorem size_bytes (l : List UInt8) : (⟨l.toArray⟩ : ByteArray).size = l.length := by simp [ByteArray.size]

end Go.Proofs.YtejlddimokmgjaaGreatDoor
