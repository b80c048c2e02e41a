/- Walks of layer 3: what fields have of a name, by the code's way and the document's. Condition: at most 10^6 fields, texts within 10^9 octets. -/
import Derived.Test.YtefoaldpllnijaaDoorFie1
import Derived.Test.YtefoaldpllnijaaDoorFie2
import Derived.Test.YtefoaldpllnijaaDoorOct5
namespace Go.Proofs.YtefoaldpllnijaaDoor
open Go.RowKit IH
set_option maxRecDepth 100000
theorem getL_snoc (L : List Fld) (s : List UInt8) (k : Nat) (f : Fld) (hk : L[k]? = some f) : getL (L.take (k + 1)) s = getL (L.take k) s ++ if isN f s = true then [f.2] else [] := by
  unfold getL
  rw [List.take_add_one, hk, List.filter_append, List.map_append]
  cases h : isN f s <;> simp [h]
end Go.Proofs.YtefoaldpllnijaaDoor
