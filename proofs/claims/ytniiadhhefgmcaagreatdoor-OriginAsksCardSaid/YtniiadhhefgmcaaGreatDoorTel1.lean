/- Layer 8: what octets so far say of a message, by the document. Condition: at most 65535 octets. Printed by mktel1.py. -/
import Derived.Test.YtniiadhhefgmcaaGreatDoorRc
import Derived.Test.YtniiadhhefgmcaaGreatDoorLz
import Derived.Test.YtniiadhhefgmcaaGreatDoorMes3
import Derived.Test.YtniiadhhefgmcaaGreatDoorChu8
import Derived.Test.YtniiadhhefgmcaaGreatDoorMs
import Derived.Test.YtniiadhhefgmcaaGreatDoorFq
namespace Go.Proofs.YtniiadhhefgmcaaGreatDoor
open Go.RowKit IH
set_option maxRecDepth 100000
theorem msg_cells (s : Sta) : ∃ Sm St Sr : ByteArray, staC s = [.string Sm, .string St, .int .i64 s.status, .string Sr, .int .i64 s.minor] ∧ ∀ F B, msgC s F B = [.string Sm, .string St, .int .i64 s.status, .string Sr, .int .i64 s.minor, F, B] := ⟨_, _, _, rfl, fun _ _ => rfl⟩
end Go.Proofs.YtniiadhhefgmcaaGreatDoor

