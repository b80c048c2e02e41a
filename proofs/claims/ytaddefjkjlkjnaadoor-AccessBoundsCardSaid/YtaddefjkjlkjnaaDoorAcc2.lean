/- Walks of icehouseref28.Of and Same: the document's answer for what was told of a connection. No condition but that lists are within bounds. -/
import Derived.Test.YtaddefjkjlkjnaaDoorAcc1
import Derived.Laws.StructEq
namespace Go.Proofs.YtaddefjkjlkjnaaDoor
open Go.RowKit IH
set_option maxRecDepth 100000
/-- A reply's cells, one by one, at a place. -/
theorem told_cells {w : World} {b off : Nat} {t : Reply} (h : ∀ j u, (toldCells t)[j]? = some u → w.cell? ⟨b, off + j, none⟩ = some u) :
    w.cell? ⟨b, off, none⟩ = some (.int .i64 t.conn) ∧ w.cell? ⟨b, off + 1, none⟩ = some (.int .i64 t.kind) ∧ w.cell? ⟨b, off + 2, none⟩ = some (.int .i64 t.moment) ∧ w.cell? ⟨b, off + 3, none⟩ = some (.int .i64 t.lines) ∧ w.cell? ⟨b, off + 4, none⟩ = some (.string ⟨t.method.toArray⟩) ∧ w.cell? ⟨b, off + 5, none⟩ = some (.string ⟨t.uri.toArray⟩) ∧ w.cell? ⟨b, off + 6, none⟩ = some (.string ⟨t.key.toArray⟩) ∧ w.cell? ⟨b, off + 7, none⟩ = some (.int .i64 t.status) ∧ w.cell? ⟨b, off + 8, none⟩ = some (.int .i64 t.age) :=
  ⟨by simpa using h 0 _ rfl, h 1 _ rfl, h 2 _ rfl, h 3 _ rfl, h 4 _ rfl, h 5 _ rfl, h 6 _ rfl, h 7 _ rfl, h 8 _ rfl⟩

theorem told_neq (t : Reply) (w : World) : (binOp .neq 48 (.agg (toldCells t).toArray) (.agg (toldCells t).toArray)).run Tryd.prog w = .ok (.bool false) w := by
  have u1 := Tryd.underlying3
  have u2 := Tryd.underlying9
  have hS : Program.underlying Tryd.prog 48 = some (.struct (Program.fieldsOf Tryd.prog 48)) := by kernel_rfl
  have hp : Program.stoodInHeld Tryd.prog 48 = false := by kernel_rfl
  simp only [toldCells]
  rw [run_neq_struct, show (10000 : Nat) = 9999 + 1 from rfl, run_equalIn_agg w 9999 48 _ _ hS hp]
  simp only [Program.fieldsOf, Tryd.underlying48]
  go_simp
  try simp
end Go.Proofs.YtaddefjkjlkjnaaDoor
