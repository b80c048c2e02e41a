/- Layer 3 in plain Lean: the document's examples. No condition. -/
import Derived.Test.YtpmidmdodjgeeaaDoorFld1
namespace IH
set_option maxRecDepth 100000

/-- "A: b", "C:", "", "x" -/
def ex3 : List UInt8 := [65, 58, 32, 98, 13, 10, 67, 58, 13, 10, 13, 10, 120]
theorem ex3_parse : parseFs ex3 = ([([65], [98]), ([67], [])], 12, 0) := by decide +kernel
theorem ex3_with : withL [([65], [49]), ([66], [50])] [([97], [51])] = [([97], [51]), ([66], [50])] := by decide +kernel
end IH
