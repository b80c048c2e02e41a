/- A world for the witness: the tables of package unicode/utf8 as its text lays them. No condition. -/
import Derived.Test.YtniiadhhefgmcaaGreatDoorCards
import Derived.Test.YtniiadhhefgmcaaGreatDoorTie
import Derived.WalkKit
import Derived.ProofKit
import Derived.OpenShut
import Derived.ShutString
import Derived.ChangeOld
import Derived.Below
import Derived.Deep.DeepHandedRow
import Derived.Lib.LaidTab
namespace Go.Proofs.YtniiadhhefgmcaaGreatDoor
open Go.ChangeShapes Go.WideShapes Go.ChangeAt Go.RowKit

theorem own : ownKnob Tryz.prog.godebug = none := by kernel_rfl
theorem laidOut : laidOutB Tryz.prog = true := by kernel_rfl
def acceptZ : List Nat := [128, 191, 160, 191, 128, 159, 144, 191, 128, 143, 0, 0, 0, 0, 0, 0, 0, 0, 0, 0, 0, 0, 0, 0, 0, 0, 0, 0, 0, 0, 0, 0]
def firstV : Array Value := (Go.Pinned.utf8FirstZ.map fun n : Nat => Value.int .u8 (n : Int)).toArray
def acceptV : Array Value := (acceptZ.map fun n : Nat => Value.int .u8 (n : Int)).toArray
def putCells (vs : Array Value) : Obj → Obj
  | .cells _ t f => .cells vs t f
  | o => o
noncomputable def laidWorld (os : Os) : World :=
  { World.holding Tryz.prog os ⟨#[], #[], []⟩ with heap := ((World.holding Tryz.prog os ⟨#[], #[], []⟩).heap.modify 1 (putCells firstV)).modify 2 (putCells acceptV) }
end Go.Proofs.YtniiadhhefgmcaaGreatDoor
