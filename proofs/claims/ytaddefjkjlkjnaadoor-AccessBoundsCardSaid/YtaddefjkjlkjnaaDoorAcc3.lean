/- Walk of icehouseref28.Same at two lists that are one. No condition but that the lists are within bounds. -/
import Derived.Test.YtaddefjkjlkjnaaDoorAcc2
import Derived.BigQuiet
namespace Go.Proofs.YtaddefjkjlkjnaaDoor
open Go.RowKit IH
set_option maxRecDepth 100000

set_option maxHeartbeats 8000000 in
theorem Same_told (L : List Reply) (A B : Option Addr) (n c d : Nat) (w : World) (hA : SliceIn w w.heap.size 9 A n c (toldsV L)) (hB : SliceIn w w.heap.size 9 B n d (toldsV L)) (hs : n ≤ 1000000) :
    Calls Tryd.prog 32 #[.slice A n c, .slice B n d] w fun e w' => e = .returned (.bool true) ∧ ∃ q, w' = w.drewN q := by
  have hL : L.length = n := by have := hA.1; rw [toldsV_length] at this; omega
  go_enter Tryd.func32, Tryd.ntmps32
  go_wp2
  go_loopw [5] (fun i wr => ∃ k q : Nat, k ≤ n ∧ i = .int .i64 k ∧ wr = w.drewN q) (fun i _ => n - (intOf i).toNat)
  case atStart => exact ⟨0, 0, by omega, rfl, rfl⟩
  case round =>
    obtain ⟨k, q, hk, rfl, rfl⟩ := hrel
    by_cases hlt : k < n
    · obtain ⟨t, ht⟩ : ∃ l, L[k]? = some l := ⟨_, List.getElem?_eq_getElem (by omega)⟩
      obtain ⟨b, off, rfl, hb, hc⟩ := hA.2.2.2 (by omega)
      obtain ⟨b2, off2, rfl, hb2, hc2⟩ := hB.2.2.2 (by omega)
      have h1 : ∀ j u, (toldCells t)[j]? = some u → w.cell? ⟨b, off + k * 9 + j, none⟩ = some u := fun j u hu => by
        have hj : j < 9 := by have := (List.getElem?_eq_some_iff.1 hu).1; rw [toldCells_length] at this; exact this
        rw [Nat.add_assoc]
        exact hc _ _ (by rw [toldsV, flat_get toldCells 9 toldCells_length L k j t ht hj, hu])
      have h2 : ∀ j u, (toldCells t)[j]? = some u → w.cell? ⟨b2, off2 + k * 9 + j, none⟩ = some u := fun j u hu => by
        have hj : j < 9 := by have := (List.getElem?_eq_some_iff.1 hu).1; rw [toldCells_length] at this; exact this
        rw [Nat.add_assoc]
        exact hc2 _ _ (by rw [toldsV, flat_get toldCells 9 toldCells_length L k j t ht hj, hu])
      obtain ⟨c0, c1, c2, c3, c4, c5, c6, c7, c8⟩ := told_cells h1
      obtain ⟨d0, d1, d2, d3, d4, d5, d6, d7, d8⟩ := told_cells h2
      clear h1 h2 hc hc2 ht
      have hne := told_neq t
      unfold toldCells at hne
      go_wp2
      go_quiet (fail)
      go_wp2
      go_roundw
      case rel => exact ⟨k + 1, _, by omega, by go_num, rfl⟩
      case measure => simp [intOf]; omega
    · obtain rfl : k = n := by omega
      go_wp2
      go_ret
      exact ⟨rfl, q, rfl⟩
end Go.Proofs.YtaddefjkjlkjnaaDoor
