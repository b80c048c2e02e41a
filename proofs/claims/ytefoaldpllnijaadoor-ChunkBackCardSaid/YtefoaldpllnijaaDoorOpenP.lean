/- Slices of slices of octets that came in, opened. No condition. -/
import Derived.Test.YtefoaldpllnijaaDoorPie
import Derived.Test.YtefoaldpllnijaaDoorOpen
import Derived.ProofKit
import Derived.OpenShut
import Derived.ChangeSame
import Derived.Deep.Slices
import Derived.Deep.Fields
namespace Go.Proofs.YtefoaldpllnijaaDoor
open Go.ChangeShapes Go.WideShapes Go.ChangeAt Go.RowKit Go.WideMaps Go.WideElems Go.Deep IH
set_option maxRecDepth 100000
section
variable {H : Type} {enc : TypeId × Value → H} {P : Program} {w : World} {base : Nat} {spare : Nat → Bool} {held : Bool}
theorem slice_in1 {a : Addr} {len cap : Nat} {xs : List Value} (hl : len ≤ cap) (hm : cap ≤ maxLen) (hz : len = xs.length) (hcell : ∀ i u, xs[i]? = some u → w.cell? (a.add i) = some u) : SliceIn w w.heap.size 1 (some a) len cap xs := by
  refine ⟨by omega, hl, hm, fun h0 => ?_⟩
  obtain ⟨u0, hu0⟩ : ∃ u, xs[0]? = some u := ⟨_, List.getElem?_eq_getElem (by omega)⟩
  have hc0 := hcell 0 u0 hu0
  obtain ⟨b, off, spot⟩ := a
  have hspot : spot = none := by simpa [Addr.add] using World.cell?_spot hc0
  subst hspot
  refine ⟨b, off, rfl, World.block_lt_of_cell? w _ (by rw [add_plain] at hc0; exact hc0), fun j u hu => ?_⟩
  have := hcell j u hu
  rwa [add_plain] at this
theorem list_each' {α : Type} (n : Nat) (Q : Nat → α → Prop) (h : ∀ i, i < n → ∃ t, Q i t) : ∃ L : List α, L.length = n ∧ ∀ i t, L[i]? = some t → Q i t := by
  induction n with
  | zero => exact ⟨[], rfl, fun i t h => by simp at h⟩
  | succ n ih =>
    obtain ⟨L, hL, hQ⟩ := ih fun i hi => h i (by omega)
    obtain ⟨t, ht⟩ := h n (by omega)
    refine ⟨L ++ [t], by simp [hL], fun i u hu => ?_⟩
    rcases Nat.lt_or_ge i n with hi | hi
    · rw [List.getElem?_append_left (by omega)] at hu
      exact hQ i u hu
    · rw [List.getElem?_append_right (by omega), hL] at hu
      have hin : i = n := by
        rcases Nat.eq_zero_or_pos (i - n) with h0 | h0
        · omega
        · rw [List.getElem?_eq_none (by simp; omega)] at hu; cases hu
      subst hin
      simp at hu
      subst hu
      exact ht
theorem trod_bytes_in {t e : TypeId} (ht : P.underlying t = some (.slice e)) (he : P.underlying e = some (.int .u8)) (hc : P.cellsOf e = 1) {fuel : Nat} {v : Value} {x : DataW H × List MemPlace} (h : DataW.trod enc P w base spare held fuel t [v] = some x) :
    ∃ A n c L, v = .slice A n c ∧ SliceIn w w.heap.size 1 A n c (bytesV L) := by
  rcases open_ints ht he hc h with ⟨hcs, _⟩ | ⟨a, l, c, zs, hcs, _, hl, hm, hz, _, hcell, hwz⟩
  · injection hcs with hcs
    exact ⟨_, _, _, [], hcs, SliceIn.none_ (Nat.zero_le _)⟩
  · injection hcs with hcs
    have hz' : l ≤ zs.length := by rw [hz]; split <;> omega
    refine ⟨_, _, _, (zs.take l).map fun z => UInt8.ofNat z.toNat, hcs, slice_in1 hl hm (by rw [bytesV_length, List.length_map, List.length_take]; omega) fun i u hu => ?_⟩
    rw [bytesV_get, List.getElem?_map, List.getElem?_take] at hu
    split at hu
    · rename_i hj
      have hjl : i < zs.length := by omega
      rw [List.getElem?_eq_getElem hjl] at hu
      simp only [Option.map_some, Option.some.injEq] at hu
      have hb := bounds_u8 (hwz zs[i] (List.getElem_mem hjl))
      rw [← hu, hcell i hjl]
      simp only [List.getD_eq_getElem?_getD, List.getElem?_eq_getElem hjl, Option.getD_some, byteV]
      congr 2
      rw [UInt8.toNat_ofNat']
      omega
    · simp at hu
end
section
variable {H : Type} {enc : TypeId × Value → H} {w : World} {base b0 : Nat} {spare : Nat → Bool} {held : Bool} {r : Reach}
theorem open_pieces_in {v : Value} {d : DataW H} {p : List MemPlace} (hval : Value.okWide Tryd.prog w r b0 54 v) (h : DataW.Trod enc Tryd.prog w base spare held 54 v d p) :
    ∃ A n c L V, v = .slice A n c ∧ SliceIn w w.heap.size 1 A n c V ∧ PiecesR w w.heap.size L V := by
  obtain ⟨a0, len0, cap0, rfl⟩ := okWide_slice Tryd.underlying54 hval
  obtain ⟨fuel, hf⟩ := h
  rcases open_slice1 Tryd.underlying54 (show Tryd.prog.cellsOf 22 = 1 by kernel_rfl) hf with ⟨hcs, _⟩ | ⟨a, l, c, m, n, V, D, Pl, hcs, _, hl, hm, hmm, hV, hx⟩
  · simp [Value.cells] at hcs
    obtain ⟨rfl, rfl, rfl⟩ := hcs
    exact ⟨_, _, _, [], [], rfl, SliceIn.none_ (Nat.zero_le _), rfl, fun i l h => by simp at h⟩
  · simp [Value.cells] at hcs
    obtain ⟨rfl, rfl, rfl⟩ := hcs
    have hlm : len0 ≤ m := by rw [hmm]; split <;> omega
    obtain ⟨VL, hVL, hVQ⟩ := list_each' len0 (fun i (u : Value) => w.cell? (a.add i) = some u ∧ ∃ (l : List UInt8) (A : Option Addr) (n c : Nat), u = Value.slice A n c ∧ SliceIn w w.heap.size 1 A n c (bytesV l)) (fun i hi => by
      obtain ⟨h1, h2⟩ := hx i (by omega)
      obtain ⟨A, n, c, L, e, hs⟩ := trod_bytes_in Tryd.underlying22 Tryd.underlying5 (by kernel_rfl) h2
      exact ⟨_, h1, L, A, n, c, e, hs⟩)
    obtain ⟨L, hL, hQ⟩ := list_each' len0 (fun i (l : List UInt8) => ∃ (A : Option Addr) (n c : Nat), VL[i]? = some (Value.slice A n c) ∧ SliceIn w w.heap.size 1 A n c (bytesV l)) (fun i hi => by
      have hi' : i < VL.length := by omega
      obtain ⟨_, l, A, n, c, e, hs⟩ := hVQ i VL[i] (List.getElem?_eq_getElem hi')
      exact ⟨l, A, n, c, by rw [List.getElem?_eq_getElem hi', e], hs⟩)
    exact ⟨_, _, _, L, VL, rfl, slice_in1 hl hm hVL.symm fun i u hu => (hVQ i u hu).1, by omega, fun i l h => hQ i l h⟩
end
end Go.Proofs.YtefoaldpllnijaaDoor
