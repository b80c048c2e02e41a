/- Walks of layer 1: what a quoted text says. No condition but that lengths are within bounds. -/
import Derived.Test.YtaddefjkjlkjnaaDoorBuild
import Derived.Test.YtaddefjkjlkjnaaDoorPm
import Derived.Test.YtaddefjkjlkjnaaDoorOct5
namespace Go.Proofs.YtaddefjkjlkjnaaDoor
open Go.RowKit IH
set_option maxRecDepth 100000

theorem HasPrefix_any (s p : ByteArray) (w : World) :
    Calls Tryd.prog 98 #[.string s, .string p] w fun e w' => e = .returned (.bool (Lib.hasPrefix s.data.toList p.data.toList)) ∧ w = w' := by
  refine (Tryd.strings_HasPrefix s p w).mono ?_
  rintro e w' ⟨rfl, rfl⟩
  exact ⟨rfl, rfl⟩

end Go.Proofs.YtaddefjkjlkjnaaDoor
