/- An argument that came in, opened: an array of two ints. No condition. -/
import Derived.Test.YtpmidmdodjgeeaaDoorRows
import Derived.WalkKit
import Derived.ProofKit
import Derived.OpenShut
namespace Go.Proofs.YtpmidmdodjgeeaaDoor
open Go.ChangeShapes Go.WideShapes Go.ChangeAt Go.RowKit Go.WideMaps Go.WideElems
set_option maxRecDepth 100000
section
variable {H : Type} {enc : TypeId × Value → H} {w : World} {base b0 : Nat} {spare : Nat → Bool} {held : Bool} {r : Reach}
theorem trod_one_int {fuel : Nat} {c : Value} {x : DataW H × List MemPlace} (h : DataW.trod enc Tryd.prog w base spare held fuel 3 [c] = some x) : ∃ n : Int, c = .int .i64 n ∧ (Lit.int .i64 n).wf = true := by
  cases fuel with
  | zero => simp [DataW.trod] at h
  | succ m =>
    unfold DataW.trod at h
    rw [Tryd.underlying3] at h
    cases c <;> simp at h
    rename_i k n
    obtain ⟨⟨rfl, h2⟩, _⟩ := h
    exact ⟨n, rfl, h2⟩
theorem open_arr2_in {v : Value} {d : DataW H} {p : List MemPlace} (hval : Value.okWide Tryd.prog w r b0 68 v) (h : DataW.Trod enc Tryd.prog w base spare held 68 v d p) :
    ∃ a b : Int, v = .agg #[.int .i64 a, .int .i64 b] ∧ (Lit.int .i64 a).wf = true ∧ (Lit.int .i64 b).wf = true := by
  unfold Value.okWide at hval
  rw [Tryd.underlying68] at hval
  obtain ⟨cs, rfl, hsz, _⟩ := hval
  have h2 : Tryd.prog.cellsOf 68 = 2 := by kernel_rfl
  have h1 : Tryd.prog.cellsOf 3 = 1 := by kernel_rfl
  rw [h2] at hsz
  obtain ⟨l⟩ := cs
  match l, hsz with
  | [c0, c1], _ =>
    obtain ⟨fuel, hf⟩ := h
    obtain ⟨xs, m, _, _, _, hl, hall⟩ := DataW.trod_array Tryd.underlying68 hf
    have q0 := hall 0 (by omega)
    have q1 := hall 1 (by omega)
    rw [h1] at q0 q1
    obtain ⟨x0, hx0⟩ : ∃ x, xs[0]? = some x := ⟨_, List.getElem?_eq_getElem (by omega)⟩
    obtain ⟨x1, hx1⟩ : ∃ x, xs[1]? = some x := ⟨_, List.getElem?_eq_getElem (by omega)⟩
    rw [hx0] at q0
    rw [hx1] at q1
    obtain ⟨a, rfl, ha⟩ := trod_one_int (c := c0) q0
    obtain ⟨b, rfl, hb⟩ := trod_one_int (c := c1) q1
    exact ⟨a, b, rfl, ha, hb⟩
end
end Go.Proofs.YtpmidmdodjgeeaaDoor
