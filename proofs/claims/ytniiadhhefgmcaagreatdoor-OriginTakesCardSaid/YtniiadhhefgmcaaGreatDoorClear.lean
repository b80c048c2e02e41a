/- clear of a slice's tail in a row of the call's own; a struct of two cells stored into such a row. Condition: the row is the call's own. -/
import Derived.Test.YtniiadhhefgmcaaGreatDoorKt
import Derived.Laws.CopyRow
import Derived.Deep.MidRow
namespace Go.Proofs.YtniiadhhefgmcaaGreatDoor
open Go.RowKit
set_option maxRecDepth 100000
theorem zeroCells_size (z : Array Value) (n : Nat) : (Builtin.zeroCells z n).toList.length = n * z.size := by simp [Builtin.zeroCells]
end Go.Proofs.YtniiadhhefgmcaaGreatDoor

