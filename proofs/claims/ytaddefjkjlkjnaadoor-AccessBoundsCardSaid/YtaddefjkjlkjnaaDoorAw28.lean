/- Layer 28's laws: the document's example. No condition. -/
import Derived.Test.YtaddefjkjlkjnaaDoorAcc11
namespace Go.Proofs.YtaddefjkjlkjnaaDoor
open Go.RowKit IH
set_option maxRecDepth 100000
set_option linter.unusedSimpArgs false

def ex28 : Reply := { conn := 0, kind := 1, moment := 1005, lines := 1, method := [71, 69, 84], uri := [104, 116, 116, 112, 58, 47, 47, 104, 47, 97], key := [104, 116, 116, 112, 58, 47, 47, 104, 47, 97, 10], status := 200, age := 5 }
theorem ex28_print : print28 [ex28] = ([49, 48, 48, 53, 32, 48, 32, 104, 105, 116, 32, 71, 69, 84, 32, 104, 116, 116, 112, 58, 47, 47, 104, 47, 97, 32, 50, 48, 48, 32, 53, 32, 49, 32, 34, 104, 116, 116, 112, 58, 47, 47, 104, 47, 97, 92, 110, 34, 10], 0) := by decide +kernel

theorem awake28_any (w : World) : Calls Tryd.prog 23 #[] w fun e w' => e = .returned (.bool true) ∧ Below w.heap.size w w' := by
  have hin : SliceIn (w.alloc (.cells (toldsV [ex28]).toArray 48)) (w.alloc (.cells (toldsV [ex28]).toArray 48)).heap.size 9 (some ⟨w.heap.size, 0, none⟩) 1 1 (toldsV [ex28]) :=
    (RowAt.new w 48 (toldsV [ex28])).slice rfl (Nat.le_refl _) (by simp [maxLen])
  have HP := Lib.hid (Print28_any _ _ _ _ _ hin (by decide) (by intro t ht; rw [List.mem_singleton.1 ht]; exact ⟨by decide, by decide, by decide⟩))
  rw [ex28_print] at HP
  clear hin
  go_enter Tryd.func23, Tryd.ntmps23
  go_wp2_with (go_at_call 30; refine HP.out.mono ?_; rintro e w1 ⟨rfl, hb⟩)
  go_ret
  exact ⟨rfl, below_step ((Below.refl _ _).alloc (Nat.le_refl _) _) hb⟩

end Go.Proofs.YtaddefjkjlkjnaaDoor
