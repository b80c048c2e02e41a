/- An argument that is a URI, opened. No condition. -/
import Derived.Test.YtniiadhhefgmcaaGreatDoorKt
import Derived.ProofKit
import Derived.OpenShut
import Derived.Lib.SmallJoins
namespace Go.Proofs.YtniiadhhefgmcaaGreatDoor
open Go.RowKit
open Go.ChangeShapes Go.WideShapes Go.ChangeAt Go.Joins
set_option maxRecDepth 100000
section
variable {H : Type} {enc : TypeId × Value → H} {w : World} {base b0 : Nat} {spare : Nat → Bool} {held : Bool} {r : Reach}
theorem open_uri {v : Value} {d : DataW H} {p : List MemPlace} (hval : Value.okWide Tryz.prog w r b0 53 v) (h : DataW.Trod enc Tryz.prog w base spare held 53 v d p) :
    ∃ (A : ByteArray) (n : Int) (B : ByteArray), v = .agg #[.string A, .int .i64 n, .string B] ∧ A.size ≤ maxLen ∧ (Lit.int .i64 n).wf = true ∧ B.size ≤ maxLen := by
  obtain ⟨c0, c1, c2, y0, y1, y2, m, rfl, rfl, rfl, hy0, hy1, hy2⟩ := open_agg3 Tryz.underlying53 (by kernel_rfl) (by kernel_rfl) hval h
  obtain ⟨x, e0, rfl, wx⟩ := DataW.trod_string Tryz.underlying9 hy0
  obtain ⟨y, e1, rfl, wy⟩ := DataW.trod_int Tryz.underlying3 hy1
  obtain ⟨z, e2, rfl, wz⟩ := DataW.trod_string Tryz.underlying9 hy2
  simp only [List.cons.injEq, and_true] at e0 e1 e2
  subst e0 e1 e2
  exact ⟨x, y, z, rfl, wx, wy, wz⟩
end
end Go.Proofs.YtniiadhhefgmcaaGreatDoor
