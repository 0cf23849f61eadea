/- THE LIBRARY's CONTRACTS at this program, in the words of the walks. -/
import Derived.Test.YtbdmepilmoomeaaGreatDoorBld
namespace Go.Proofs.YtbdmepilmoomeaaGreatDoor
open Go.RowKit

theorem indexByte_calls (s : ByteArray) (c : UInt8) (w : World) :
    Calls Tryz.prog 46 #[.string s, .int .u8 c.toNat] w fun e w' => e = .returned (.int .i64 (ix s.data.toList c)) ∧ w' = w := by
  have h := Tryz.strings_IndexByte s c.toNat w
  simpa [ix] using h
end Go.Proofs.YtbdmepilmoomeaaGreatDoor
