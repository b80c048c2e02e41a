/- Arguments that came in, opened: slices of texts, of octets. No condition. -/
import Derived.Test.YtniiadhhefgmcaaGreatDoorKt
import Derived.Test.YtniiadhhefgmcaaGreatDoorOct5
import Derived.ProofKit
import Derived.OpenShut
import Derived.SliceStrings
namespace Go.Proofs.YtniiadhhefgmcaaGreatDoor
open Go.ChangeShapes Go.WideShapes Go.ChangeAt Go.RowKit Go.WideMaps Go.WideElems
set_option maxRecDepth 100000

section
variable {H : Type} {enc : TypeId × Value → H} {w : World} {base b0 : Nat} {spare : Nat → Bool} {held : Bool} {r : Reach}

theorem slice_in {w : World} {a : Addr} {len cap : Nat} {xs : List Value} (hl : len ≤ cap) (hm : cap ≤ maxLen) (hz : len = xs.length)
    (hcell : ∀ i u, xs[i]? = some u → w.cell? (a.add i) = some u) : SliceIn w w.heap.size 1 (some a) len cap xs := by
  refine ⟨by omega, hl, hm, fun h0 => ?_⟩
  obtain ⟨b, off, spot⟩ := a
  obtain ⟨u0, hu0⟩ : ∃ u, xs[0]? = some u := ⟨_, List.getElem?_eq_getElem (by omega)⟩
  have hc0 := hcell 0 u0 hu0
  have hspot : spot = none := by simpa [Addr.add] using World.cell?_spot hc0
  subst hspot
  refine ⟨b, off, rfl, World.block_lt_of_cell? w _ (by rw [add_plain] at hc0; exact hc0), fun j u hu => ?_⟩
  have := hcell j u hu
  rwa [add_plain] at this

theorem open_bytes_in {v : Value} {d : DataW H} {p : List MemPlace} (hval : Value.okWide Tryz.prog w r b0 25 v) (h : DataW.Trod enc Tryz.prog w base spare held 25 v d p) :
    ∃ A n c L, v = .slice A n c ∧ SliceIn w w.heap.size 1 A n c (bytesV L) := by
  obtain ⟨a0, len0, cap0, rfl⟩ := okWide_slice Tryz.underlying25 hval
  obtain ⟨fuel, hf⟩ := h
  rcases open_ints Tryz.underlying25 Tryz.underlying5 (by kernel_rfl) hf with ⟨hcs, _⟩ | ⟨x, l, c, zs, hcs, _, hl, hm, hz, _, hcell, hwz⟩
  · simp [Value.cells] at hcs
    obtain ⟨rfl, rfl, rfl⟩ := hcs
    exact ⟨_, _, _, [], rfl, SliceIn.none_ (Nat.zero_le _)⟩
  · simp [Value.cells] at hcs
    obtain ⟨rfl, rfl, rfl⟩ := hcs
    have hz' : len0 ≤ zs.length := by rw [hz]; split <;> omega
    refine ⟨_, _, _, (zs.take len0).map fun z => UInt8.ofNat z.toNat, rfl, slice_in hl hm (by rw [bytesV_length, List.length_map, List.length_take]; omega) fun i u hu => ?_⟩
    rw [bytesV_get, List.getElem?_map, List.getElem?_take] at hu
    split at hu
    · rename_i hj
      have hjl : i < zs.length := by omega
      rw [List.getElem?_eq_getElem hjl] at hu
      simp only [Option.map_some, Option.some.injEq] at hu
      have hb := bounds_u8 (hwz zs[i] (List.getElem_mem hjl))
      rw [← hu, hcell i hjl]
      simp only [List.getD_eq_getElem?_getD, List.getElem?_eq_getElem hjl, Option.getD_some, byteV]
      congr 2
      rw [UInt8.toNat_ofNat']
      omega
    · simp at hu
end
end Go.Proofs.YtniiadhhefgmcaaGreatDoor

