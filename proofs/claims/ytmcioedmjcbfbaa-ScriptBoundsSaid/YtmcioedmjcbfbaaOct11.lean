/- Walks of layer 1: what a quoted text says. No condition but that lengths are within bounds. -/
import Derived.Test.YtmcioedmjcbfbaaBuild
import Derived.Test.YtmcioedmjcbfbaaPm
import Derived.Test.YtmcioedmjcbfbaaOct5
namespace Go.Proofs.Ytmcioedmjcbfbaa
open Go.RowKit IH
set_option maxRecDepth 100000

theorem HasPrefix_any (s p : ByteArray) (w : World) :
    Calls Try.prog 45 #[.string s, .string p] w fun e w' => e = .returned (.bool (Lib.hasPrefix s.data.toList p.data.toList)) ∧ w = w' := by
  refine (Try.strings_HasPrefix s p w).mono ?_
  rintro e w' ⟨rfl, rfl⟩
  exact ⟨rfl, rfl⟩

end Go.Proofs.Ytmcioedmjcbfbaa
