/- A slice of a log's lines, opened. No condition. -/
import Derived.Test.YtclgkkencpkjpaaGreatDoorOm
import Derived.Test.YtclgkkencpkjpaaGreatDoorKg
namespace Go.Proofs.YtclgkkencpkjpaaGreatDoor
open Go.ChangeShapes Go.WideShapes Go.ChangeAt Go.RowKit Go.WideMaps Go.WideElems Go.Deep IH
set_option maxRecDepth 100000
section
variable {H : Type} {enc : TypeId × Value → H} {w : World} {base b0 : Nat} {spare : Nat → Bool} {held : Bool} {r : Reach}
theorem open_logs {v : Value} {d : DataW H} {p : List MemPlace} (hval : Value.okWide Tryz.prog w r b0 55 v) (h : DataW.Trod enc Tryz.prog w base spare held 55 v d p) :
    ∃ A n c L, v = .slice A n c ∧ SliceIn w w.heap.size 3 A n c (logsV L) := by
  obtain ⟨a0, len0, cap0, rfl⟩ := okWide_slice Tryz.underlying55 hval
  obtain ⟨fuel, hf⟩ := h
  rcases open_fields Tryz.underlying55 Tryz.underlying57 (by kernel_rfl) (by kernel_rfl) hf with hcs | ⟨x, l, c, hcs, hl, hm, hall⟩
  · simp [Value.cells] at hcs
    obtain ⟨rfl, rfl, rfl⟩ := hcs
    exact ⟨_, _, _, [], rfl, SliceIn.none_ (Nat.zero_le _)⟩
  · simp [Value.cells] at hcs
    obtain ⟨rfl, rfl, rfl⟩ := hcs
    have hone : ∀ i, i < len0 → ∃ t : LogL, ∀ j u, (logCells t)[j]? = some u → w.cell? (x.add (i * 3 + j)) = some u := by
      intro i hi
      obtain ⟨n, hn⟩ := hall i hi
      obtain ⟨v0, y0, c0, t0⟩ := hn 0 _ rfl
      obtain ⟨v1, y1, c1, t1⟩ := hn 1 _ rfl
      obtain ⟨v2, y2, c2, t2⟩ := hn 2 _ rfl
      obtain ⟨z0, e0, _, _⟩ := DataW.trod_int Tryz.underlying3 t0
      obtain ⟨z1, e1, _, _⟩ := DataW.trod_string Tryz.underlying9 t1
      obtain ⟨z2, e2, _⟩ := DataW.trod_bool Tryz.underlying4 t2
      simp only [List.cons.injEq, and_true] at e0 e1 e2
      subst e0 e1 e2
      refine ⟨⟨z0, z1.data.toList, z2⟩, fun j u hu => ?_⟩
      have hj : j < 3 := (List.getElem?_eq_some_iff.1 hu).1
      simp only [logCells, Lib.mk_data] at hu
      have hj2 : j = 0 ∨ j = 1 ∨ j = 2 := by omega
      rcases hj2 with rfl | rfl | rfl <;> (simp only [List.getElem?_cons_zero, List.getElem?_cons_succ, Option.some.injEq] at hu; subst hu; assumption)
    obtain ⟨L, hL, hQ⟩ := list_each len0 _ hone
    refine ⟨_, _, _, L, rfl, ⟨by rw [logsV_length, hL], hl, hm, fun h0 => ?_⟩⟩
    obtain ⟨t0, ht0⟩ : ∃ t, L[0]? = some t := ⟨_, List.getElem?_eq_getElem (by omega)⟩
    have hc0 := hQ 0 t0 ht0 0 _ rfl
    obtain ⟨b, off, hx⟩ := plain_addr hc0
    obtain ⟨xb, xo, xs⟩ := x
    have hs : xs = none := by
      unfold Addr.add at hx
      split at hx <;> simp_all
    subst hs
    refine ⟨xb, xo, rfl, World.block_lt_of_cell? w _ (by rw [add_plain] at hc0; exact hc0), fun j u hu => ?_⟩
    have hjl : j < L.length * 3 := by rw [← logsV_length]; exact (List.getElem?_eq_some_iff.1 hu).1
    obtain ⟨t, ht⟩ : ∃ t, L[j / 3]? = some t := ⟨_, List.getElem?_eq_getElem (by omega)⟩
    have hk : j = j / 3 * 3 + j % 3 := by omega
    rw [hk, logsV_get L (j / 3) (j % 3) t ht (by omega)] at hu
    have := hQ (j / 3) t ht (j % 3) u hu
    rw [add_plain, ← hk] at this
    exact this
end
end Go.Proofs.YtclgkkencpkjpaaGreatDoor
