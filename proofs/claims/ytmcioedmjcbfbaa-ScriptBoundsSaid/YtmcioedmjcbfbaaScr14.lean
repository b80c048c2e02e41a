/- Layer 27: the form of a word is its kind's. No condition. -/
import Derived.Test.YtmcioedmjcbfbaaScr13
import Derived.Test.YtmcioedmjcbfbaaPm
namespace Go.Proofs.Ytmcioedmjcbfbaa
open Go.RowKit IH
set_option maxRecDepth 100000
theorem forms_map : FORMS = [0, 1, 2, 3, 4, 5, 6, 7, 8, 9, 10].map fun k : Int => (nameK k, k, asksK k) := by decide +kernel
theorem namedR_kind (l : List UInt8) : namedR l = match kindOf l with
    | some k => ((nameK k, k, asksK k), true)
    | none => (([], 0, []), false) := by
  unfold namedR kindOf
  rw [forms_map]
  generalize ([0, 1, 2, 3, 4, 5, 6, 7, 8, 9, 10] : List Int) = ks
  induction ks with
  | nil => rfl
  | cons k ks ih =>
    by_cases h : nameK k == l
    · simp [List.findIdx?_cons, h]
    · simp only [List.map_cons, List.findIdx?_cons, List.find?_cons, h, Bool.false_eq_true, if_false]
      rw [← ih]
      cases (List.map (fun k : Int => (nameK k, k, asksK k)) ks).findIdx? (fun f => f.1 == l) with
      | none => rfl
      | some i => simp
end Go.Proofs.Ytmcioedmjcbfbaa
