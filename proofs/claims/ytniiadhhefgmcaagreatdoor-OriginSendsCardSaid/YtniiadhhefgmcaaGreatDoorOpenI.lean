/- A slice of integers that came in, opened. No condition. -/
import Derived.Test.YtniiadhhefgmcaaGreatDoorOpen
namespace Go.Proofs.YtniiadhhefgmcaaGreatDoor
open Go.ChangeShapes Go.WideShapes Go.ChangeAt Go.RowKit Go.WideMaps Go.WideElems
set_option maxRecDepth 100000
section
variable {H : Type} {enc : TypeId × Value → H} {w : World} {base b0 : Nat} {spare : Nat → Bool} {held : Bool} {r : Reach}
theorem open_ints_in {v : Value} {d : DataW H} {p : List MemPlace} (hval : Value.okWide Tryz.prog w r b0 28 v) (h : DataW.Trod enc Tryz.prog w base spare held 28 v d p) :
    ∃ (A : Option Addr) (n c : Nat) (Z : List Int), v = .slice A n c ∧ SliceIn w w.heap.size 1 A n c (Z.map (Value.int .i64)) ∧ ∀ z ∈ Z, (-9223372036854775808 : Int) ≤ z ∧ z ≤ 9223372036854775807 := by
  obtain ⟨a0, len0, cap0, rfl⟩ := okWide_slice Tryz.underlying28 hval
  obtain ⟨fuel, hf⟩ := h
  rcases open_ints Tryz.underlying28 Tryz.underlying3 (by kernel_rfl) hf with ⟨hcs, _⟩ | ⟨x, l, c, zs, hcs, _, hl, hm, hz, _, hcell, hwz⟩
  · simp [Value.cells] at hcs
    obtain ⟨rfl, rfl, rfl⟩ := hcs
    exact ⟨_, _, _, [], rfl, SliceIn.none_ (Nat.zero_le _), by simp⟩
  · simp [Value.cells] at hcs
    obtain ⟨rfl, rfl, rfl⟩ := hcs
    have hz' : len0 ≤ zs.length := by rw [hz]; split <;> omega
    refine ⟨_, _, _, zs.take len0, rfl, slice_in hl hm (by rw [List.length_map, List.length_take]; omega) fun i u hu => ?_, fun z hz => ?_⟩
    · rw [List.getElem?_map, List.getElem?_take] at hu
      split at hu
      · rename_i hj
        have hjl : i < zs.length := by omega
        rw [List.getElem?_eq_getElem hjl] at hu
        simp only [Option.map_some, Option.some.injEq] at hu
        rw [← hu, hcell i hjl]
        simp only [List.getD_eq_getElem?_getD, List.getElem?_eq_getElem hjl, Option.getD_some]
      · simp at hu
    · have h := bounds_i64 (hwz z (List.mem_of_mem_take hz))
      exact h
end
end Go.Proofs.YtniiadhhefgmcaaGreatDoor
