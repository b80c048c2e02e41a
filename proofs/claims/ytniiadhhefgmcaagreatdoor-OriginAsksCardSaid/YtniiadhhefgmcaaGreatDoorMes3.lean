/- Layer 8: how a message is framed, by the document. Condition: its fields' own (FldB). Printed by mkmes3.py. -/
import Derived.Test.YtniiadhhefgmcaaGreatDoorMz
import Derived.Test.YtniiadhhefgmcaaGreatDoorFq
import Derived.Test.YtniiadhhefgmcaaGreatDoorOct6
namespace IH
end IH
namespace Go.Proofs.YtniiadhhefgmcaaGreatDoor
open Go.RowKit IH
set_option maxRecDepth 100000
end Go.Proofs.YtniiadhhefgmcaaGreatDoor

