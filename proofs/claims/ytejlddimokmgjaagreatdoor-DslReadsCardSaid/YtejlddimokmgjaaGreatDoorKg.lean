/- WALKS: many. WALKS: bare, names. WALKS: slices.IndexFunc, slices.ContainsFunc over the kids of a value, with the closure of right. WALKS: isNumber. WALKS: right's closure. WALKS: right. -/
import Derived.Test.YtejlddimokmgjaaGreatDoorKf
import Derived.Test.YtejlddimokmgjaaGreatDoorKb
namespace Go.Proofs.YtejlddimokmgjaaGreatDoor
open Go.RowKit

end Go.Proofs.YtejlddimokmgjaaGreatDoor
namespace Go.Proofs.YtejlddimokmgjaaGreatDoor
open Go.RowKit

end Go.Proofs.YtejlddimokmgjaaGreatDoor
namespace Go.Proofs.YtejlddimokmgjaaGreatDoor
open Go.RowKit

end Go.Proofs.YtejlddimokmgjaaGreatDoor
namespace Go.Proofs.YtejlddimokmgjaaGreatDoor
open Go.RowKit

end Go.Proofs.YtejlddimokmgjaaGreatDoor
namespace Go.Proofs.YtejlddimokmgjaaGreatDoor
open Go.RowKit

end Go.Proofs.YtejlddimokmgjaaGreatDoor
namespace Go.Proofs.YtejlddimokmgjaaGreatDoor
open Go.RowKit

end Go.Proofs.YtejlddimokmgjaaGreatDoor
