/- What a claim's own row asks of the whole program, each part by itself: the kernel has not memory enough for all at once. No condition. -/
import Derived.Test.YtniiadhhefgmcaaGreatDoorCards
import Derived.Test.YtniiadhhefgmcaaGreatDoorTie
import Derived.WalkKit
import Derived.ProofKit
import Derived.Deep.DeepHandedRow
namespace Go.Proofs.YtniiadhhefgmcaaGreatDoor
open Go.ChangeShapes Go.WideShapes Go.ChangeAt Go.RowKit Go.WideMaps Go.WideElems
set_option maxRecDepth 100000
noncomputable abbrev jP : Program := Tryz.pinned.checked.prog
theorem jand {a b : Bool} (h : a = true) (h2 : b = true) : (a && b) = true := by rw [h, h2]; rfl
theorem jsh1 : (laidOutB jP) = true := by kernel_rfl
theorem jsh2 : (mapsRowed jP) = true := by kernel_rfl
theorem jsh6 : ((jP.stops == [])) = true := by kernel_rfl
theorem jsh8 : ((jP.stopKnobs == [])) = true := by kernel_rfl
theorem jsh24 : (jP.stopsHeard) = true := by kernel_rfl
theorem jsh25 : (jP.mayEnter) = true := by kernel_rfl
theorem jsh22 : ((Rows.originSendsRow.plainKeys == jP.plainKeys)) = true := by kernel_rfl
theorem jsh26 : ((Rows.originSendsRow.lifted == jP.liftsFinal)) = true := by kernel_rfl
theorem jsh27 : ((jP.make == some Rows.originSendsRow.make)) = true := by kernel_rfl
end Go.Proofs.YtniiadhhefgmcaaGreatDoor
