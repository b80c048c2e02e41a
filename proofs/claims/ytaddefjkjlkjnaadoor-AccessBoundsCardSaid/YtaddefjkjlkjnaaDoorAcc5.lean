/- Walk of access.Count: counts by a map. No condition but that the list is within bounds, its kinds Go's own. -/
import Derived.Test.YtaddefjkjlkjnaaDoorAcc4
import Derived.Maps.OwnSet
import Derived.Maps.OwnOps
import Derived.Maps.Views
namespace Go.Proofs.YtaddefjkjlkjnaaDoor
open Go.RowKit IH Go.Maps
set_option maxRecDepth 100000

theorem RowAt.grown {w w' : World} {g : Nat} {e : TypeId} {cs : List Value} {row : Option Nat} (h : RowAt w g e cs) (hg : w.grownBy w' row) (hr : some g ≠ row) : RowAt w' g e cs := h.keep (hg.block g h.lt hr)
theorem law_int : Keyed Tryd.prog 3 := int_keyed Tryd.underlying3
theorem zero_int (w : World) : (zeroValue 3).run Tryd.prog w = .ok (.int .i64 0) w := by kernel_rfl
theorem ite_min (m x : Int) : (if m < x then m else x) = min x m := by split <;> omega
theorem ite_max (x : Int) : (if 0 < x then x else 0) = max 0 x := by split <;> omega
abbrev num64 (n : Int) : DataW Unit := .lit (.int .i64 n)

theorem num_of {X : DataW Unit} {c d : Int} (h : X = .lit (.int .i64 c)) (h' : X = num64 d) : c = d := by
  rw [h] at h'
  simpa [num64] using h'

/-- What a map of counts says of the five kinds. -/
def Told5 (D : DataW Unit) (L : List Reply) : Prop := ∀ j : Int, 1 ≤ j → j ≤ 5 → D.atKey (.int .i64 j) (num64 0) = num64 (countK j L)
theorem Told5.nil : Told5 (.map []) [] := fun _ _ _ => rfl
theorem Told5.step {D : DataW Unit} {L : List Reply} {t : Reply} {c : Int} (h : Told5 D L) (hD : IsMap D) (hL : L.length ≤ 1000000) (hc : D.atKey (.int .i64 t.kind) (num64 0) = num64 c) (hk : WideAt.IsKeyLit (.int .i64 t.kind)) :
    Told5 (D.put (.int .i64 t.kind) (num64 (wrap64 (c + 1)))) (L ++ [t]) := by
  intro j h1 h5
  rw [countK_snoc]
  by_cases e : t.kind = j
  · rw [if_pos e, ← e, atKey_put_same hD hk]
    rw [← e] at h1 h5
    have h2 := h _ h1 h5
    rw [hc] at h2
    have h3 : c = countK t.kind L := by simpa [num64] using h2
    have h4 := countK_le t.kind L
    rw [h3]
    have h6 : wrap64 ((countK t.kind L : Int) + 1) = countK t.kind L + 1 := by unfold wrap64; omega
    rw [h6]
    rfl
  · rw [if_neg e, atKey_put_other (fun e' => e (by cases e'; rfl))]
    exact h j h1 h5

end Go.Proofs.YtaddefjkjlkjnaaDoor
