/- Walks of layer 28: counts, and what was told of a connection. No condition but that lists are within bounds. -/
import Derived.Test.YtaddefjkjlkjnaaDoorKt
import Derived.Test.YtaddefjkjlkjnaaDoorMath28
namespace Go.Proofs.YtaddefjkjlkjnaaDoor
open Go.RowKit IH
set_option maxRecDepth 100000

def toldCells (t : Reply) : List Value := [.int .i64 t.conn, .int .i64 t.kind, .int .i64 t.moment, .int .i64 t.lines, .string ⟨t.method.toArray⟩, .string ⟨t.uri.toArray⟩, .string ⟨t.key.toArray⟩, .int .i64 t.status, .int .i64 t.age]
def toldsV (L : List Reply) : List Value := L.flatMap toldCells
theorem toldCells_length (t : Reply) : (toldCells t).length = 9 := rfl
theorem flat_length {α : Type} (f : α → List Value) (n : Nat) (hf : ∀ x, (f x).length = n) (L : List α) : (L.flatMap f).length = L.length * n := by
  induction L with
  | nil => simp
  | cons x L ih => rw [List.flatMap_cons, List.length_append, ih, hf, List.length_cons, Nat.succ_mul]; omega
theorem flat_get {α : Type} (f : α → List Value) (n : Nat) (hf : ∀ x, (f x).length = n) (L : List α) (k j : Nat) (x : α) (h : L[k]? = some x) (hj : j < n) : (L.flatMap f)[k * n + j]? = (f x)[j]? := by
  induction L generalizing k with
  | nil => simp at h
  | cons y L ih =>
    rw [List.flatMap_cons]
    cases k with
    | zero =>
      simp at h; subst h
      rw [List.getElem?_append_left (by rw [hf]; omega)]
      simp
    | succ k =>
      rw [List.getElem?_append_right (by rw [hf, Nat.succ_mul]; omega), hf]
      simp only [List.getElem?_cons_succ] at h
      rw [show (k + 1) * n + j - n = k * n + j by rw [Nat.succ_mul]; omega]
      exact ih k h
theorem toldsV_length (L : List Reply) : (toldsV L).length = L.length * 9 := flat_length _ 9 toldCells_length L
theorem toldsV_one (L : List Reply) : ∀ u ∈ toldsV L, u.oneCell' = true := by
  intro u hu
  obtain ⟨t, _, ht⟩ := List.mem_flatMap.1 hu
  simp [toldCells] at ht
  rcases ht with rfl | rfl | rfl | rfl | rfl | rfl | rfl | rfl | rfl <;> rfl

theorem told_ty : SliceTy Tryd.prog 44 48 (.agg #[.int .i64 0, .int .i64 0, .int .i64 0, .int .i64 0, .string ⟨#[]⟩, .string ⟨#[]⟩, .string ⟨#[]⟩, .int .i64 0, .int .i64 0]) 9 96 := ⟨Tryd.underlying44, by kernel_rfl, rfl, by decide⟩

end Go.Proofs.YtaddefjkjlkjnaaDoor
