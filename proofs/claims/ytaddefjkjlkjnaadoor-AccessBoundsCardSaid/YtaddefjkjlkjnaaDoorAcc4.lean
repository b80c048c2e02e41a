/- Walk of icehouseref28.Count: the document's counts. No condition but that the list is within bounds. -/
import Derived.Test.YtaddefjkjlkjnaaDoorAcc3
import Derived.Deep.Cut
import Derived.Deep.CutRange
namespace Go.Proofs.YtaddefjkjlkjnaaDoor
open Go.RowKit IH
set_option maxRecDepth 100000

/-- The counts of a list as the cells of a tally. -/
def tallyOf (L : List Reply) : List Value := [.int .i64 (countK 1 L), .int .i64 (countK 2 L), .int .i64 (countK 3 L), .int .i64 (countK 4 L), .int .i64 (countK 5 L), .int .i64 (agesOf L)]
def tally0 : List Value := [.int .i64 0, .int .i64 0, .int .i64 0, .int .i64 0, .int .i64 0, .int .i64 0]

theorem tally_cells {w : World} {b : Nat} {ty : TypeId} {v0 v1 v2 v3 v4 v5 : Value} (h : RowAt w b ty [v0, v1, v2, v3, v4, v5]) :
    w.cell? ⟨b, 0, none⟩ = some v0 ∧ w.cell? ⟨b, 1, none⟩ = some v1 ∧ w.cell? ⟨b, 2, none⟩ = some v2 ∧ w.cell? ⟨b, 3, none⟩ = some v3 ∧ w.cell? ⟨b, 4, none⟩ = some v4 ∧ w.cell? ⟨b, 5, none⟩ = some v5 :=
  ⟨h.cell rfl, h.cell rfl, h.cell rfl, h.cell rfl, h.cell rfl, h.cell rfl⟩
theorem tally_frozen {w : World} {b : Nat} {ty : TypeId} {v0 v1 v2 v3 v4 v5 : Value} (h : RowAt w b ty [v0, v1, v2, v3, v4, v5]) :
    w.frozen? ⟨b, 0, none⟩ = false ∧ w.frozen? ⟨b, 1, none⟩ = false ∧ w.frozen? ⟨b, 2, none⟩ = false ∧ w.frozen? ⟨b, 3, none⟩ = false ∧ w.frozen? ⟨b, 4, none⟩ = false ∧ w.frozen? ⟨b, 5, none⟩ = false :=
  ⟨h.frozen (Nat.lt_of_lt_of_le (by decide) (Nat.le_refl 6)), h.frozen (Nat.lt_of_lt_of_le (by decide) (Nat.le_refl 6)), h.frozen (Nat.lt_of_lt_of_le (by decide) (Nat.le_refl 6)), h.frozen (Nat.lt_of_lt_of_le (by decide) (Nat.le_refl 6)), h.frozen (Nat.lt_of_lt_of_le (by decide) (Nat.le_refl 6)), h.frozen (Nat.lt_of_lt_of_le (by decide) (Nat.le_refl 6))⟩

theorem RowAt.new_at (w : World) (e : TypeId) (cs : List Value) (g : Nat) (hg : g = w.heap.size) : RowAt (w.alloc (.cells cs.toArray e)) g e cs := by
  subst hg; exact RowAt.new w e cs

theorem six_row {w : World} {g : Nat} {e : TypeId} {a0 a1 a2 a3 a4 a5 b0 b1 b2 b3 b4 b5 : Int} (h : RowAt w g e [.int .i64 a0, .int .i64 a1, .int .i64 a2, .int .i64 a3, .int .i64 a4, .int .i64 a5])
    (e0 : a0 = b0) (e1 : a1 = b1) (e2 : a2 = b2) (e3 : a3 = b3) (e4 : a4 = b4) (e5 : a5 = b5) : RowAt w g e [.int .i64 b0, .int .i64 b1, .int .i64 b2, .int .i64 b3, .int .i64 b4, .int .i64 b5] := by
  subst e0 e1 e2 e3 e4 e5; exact h

end Go.Proofs.YtaddefjkjlkjnaaDoor
