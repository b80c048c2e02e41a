/- Walk of layer 7's document: octets so far, told. Condition: at most 10^8 octets. -/
import Derived.Test.YtniiadhhefgmcaaGreatDoorCz
import Derived.Test.YtniiadhhefgmcaaGreatDoorCy
import Derived.Test.YtniiadhhefgmcaaGreatDoorFq
namespace Go.Proofs.YtniiadhhefgmcaaGreatDoor
open Go.RowKit IH
set_option maxRecDepth 100000
end Go.Proofs.YtniiadhhefgmcaaGreatDoor

