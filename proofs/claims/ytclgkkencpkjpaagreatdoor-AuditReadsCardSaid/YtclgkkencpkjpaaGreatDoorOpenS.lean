/- Arguments that came in, opened: slices of strings, with the bound on their lengths. No condition. -/
import Derived.Test.YtclgkkencpkjpaaGreatDoorOm
import Derived.Test.YtclgkkencpkjpaaGreatDoorFq
namespace Go.Proofs.YtclgkkencpkjpaaGreatDoor
open Go.ChangeShapes Go.WideShapes Go.ChangeAt Go.RowKit Go.WideMaps Go.WideElems
set_option maxRecDepth 100000
section
variable {H : Type} {enc : TypeId × Value → H} {w : World} {base b0 : Nat} {spare : Nat → Bool} {held : Bool} {r : Reach}
theorem open_strs_big {v : Value} {d : DataW H} {p : List MemPlace} (hval : Value.okWide Tryz.prog w r b0 33 v) (h : DataW.Trod enc Tryz.prog w base spare held 33 v d p) :
    ∃ A n c L, v = .slice A n c ∧ SliceIn w w.heap.size 1 A n c (strsV L) ∧ smallS 9223372036854775807 L := by
  obtain ⟨a0, len0, cap0, rfl⟩ := okWide_slice Tryz.underlying33 hval
  obtain ⟨fuel, hf⟩ := h
  rcases open_strings Tryz.underlying33 Tryz.underlying9 (by kernel_rfl) hf with ⟨hcs, _⟩ | ⟨x, l, c, ss, hcs, _, hl, hm, hz, _, hcell, hws⟩
  · simp [Value.cells] at hcs
    obtain ⟨rfl, rfl, rfl⟩ := hcs
    exact ⟨_, _, _, [], rfl, SliceIn.none_ (Nat.zero_le _), fun x hx => by cases hx⟩
  · simp [Value.cells] at hcs
    obtain ⟨rfl, rfl, rfl⟩ := hcs
    have hz' : len0 ≤ ss.length := by rw [hz]; split <;> omega
    refine ⟨_, _, _, (ss.take len0).map fun s => s.data.toList, rfl, slice_in hl hm (by rw [strsV_length, List.length_map, List.length_take]; omega) fun i u hu => ?_, fun x hx => ?_⟩
    · rw [strsV_get, List.getElem?_map, List.getElem?_take] at hu
      split at hu
      · rename_i hj
        have hjl : i < ss.length := by omega
        rw [List.getElem?_eq_getElem hjl] at hu
        simp only [Option.map_some, Option.some.injEq, Lib.mk_data] at hu
        rw [← hu, hcell i hjl]
        simp [List.getD_eq_getElem?_getD, hjl]
      · simp at hu
    · obtain ⟨s, hs, rfl⟩ := List.mem_map.1 hx
      have := hws s (List.mem_of_mem_take hs)
      simp only [maxLen] at this
      rw [data_len]
      omega
end
end Go.Proofs.YtclgkkencpkjpaaGreatDoor
