/- Walks of layer 3: is a field right, is it of a name. Condition: texts take at most 10^9 octets. -/
import Derived.Test.YtkodeeneljkgeaaDoorFlat
import Derived.Test.YtkodeeneljkgeaaDoorOct12
import Derived.Test.YtkodeeneljkgeaaDoorOct4
namespace Go.Proofs.YtkodeeneljkgeaaDoor
open Go.RowKit IH
set_option maxRecDepth 100000
theorem below_al (w : World) (o : Obj) : Below w.heap.size w (w.alloc o) := (Below.refl _ _).alloc (Nat.le_refl _) _
theorem below_al_step {w w' : World} {o : Obj} (h : Below (w.alloc o).heap.size (w.alloc o) w') : Below w.heap.size w w' := below_step (below_al w o) h
theorem new_cell {w w' : World} {e : TypeId} {cs : List Value} (hb : Below (w.alloc (.cells cs.toArray e)).heap.size (w.alloc (.cells cs.toArray e)) w') {j : Nat} {v : Value} (h : cs[j]? = some v) : w'.cell? ⟨w.heap.size, j, none⟩ = some v :=
  ((RowAt.new w e cs).below hb (by simp)).cell h
theorem fright_any (f : Fld) (h1 : f.1.length ≤ 1000000000) (h2 : f.2.length ≤ 1000000000) (w : World) :
    Calls Tryd.prog 64 #[.agg #[.string ⟨f.1.toArray⟩, .string ⟨f.2.toArray⟩]] w fun e w' => e = .returned (.bool (fit f)) ∧ Below w.heap.size w w' := by
  have T : ∀ w, Calls Tryd.prog 54 #[.string ⟨f.1.toArray⟩] w fun e w' => e = .returned (.bool (token f.1)) ∧ w = w' := fun w => Token_any ⟨f.1.toArray⟩ (by rw [size_mk]; exact h1) w
  have V : ∀ w, Calls Tryd.prog 61 #[.string ⟨f.2.toArray⟩] w fun e w' => e = .returned (.bool (value f.2)) ∧ Below w.heap.size w w' := fun w => Value_any ⟨f.2.toArray⟩ (by rw [size_mk]; exact h2) w
  have e : fit f = (token f.1 && value f.2) := rfl
  rw [e]
  generalize token f.1 = t at *
  generalize value f.2 = v at *
  generalize (⟨f.1.toArray⟩ : ByteArray) = X at *
  generalize (⟨f.2.toArray⟩ : ByteArray) = Y at *
  replace T := Lib.hid T
  replace V := Lib.hid V
  clear e h1 h2
  cases t
  · go_enter Tryd.func64, Tryd.ntmps64
    go_wp2_with (go_at_call 54; refine (T.out _).mono ?_; rintro e w2 ⟨rfl, rfl⟩)
    go_ret
    exact ⟨rfl, below_al _ _⟩
  · go_enter Tryd.func64, Tryd.ntmps64
    go_wp2_with (first
      | (go_at_call 54; refine (T.out _).mono ?_; rintro e w2 ⟨rfl, rfl⟩)
      | (go_at_call 61; refine (V.out _).mono ?_; rintro e w3 ⟨rfl, hb⟩))
    go_ret
    exact ⟨by simp, below_al_step hb⟩
theorem fits_any (f : Fld) (h1 : f.1.length ≤ 1000000000) (h2 : f.2.length ≤ 1000000000) (w : World) :
    Calls Tryd.prog 49 #[.agg #[.string ⟨f.1.toArray⟩, .string ⟨f.2.toArray⟩]] w fun e w' => e = .returned (.bool (fit f)) ∧ Below w.heap.size w w' := by
  have T : ∀ w, Calls Tryd.prog 28 #[.string ⟨f.1.toArray⟩] w fun e w' => e = .returned (.bool (token f.1)) ∧ Below w.heap.size w w' := fun w => refToken_any ⟨f.1.toArray⟩ (by rw [size_mk]; exact h1) w
  have V : ∀ w, Calls Tryd.prog 48 #[.string ⟨f.2.toArray⟩] w fun e w' => e = .returned (.bool (value f.2)) ∧ w = w' := fun w => refValue_any ⟨f.2.toArray⟩ (by rw [size_mk]; exact h2) w
  have e : fit f = (token f.1 && value f.2) := rfl
  rw [e]
  generalize token f.1 = t at *
  generalize value f.2 = v at *
  generalize (⟨f.1.toArray⟩ : ByteArray) = X at *
  generalize (⟨f.2.toArray⟩ : ByteArray) = Y at *
  replace T := Lib.hid T
  replace V := Lib.hid V
  clear e h1 h2
  cases t
  · go_enter Tryd.func49, Tryd.ntmps49
    go_wp2_with (go_at_call 28; refine (T.out _).mono ?_; rintro e w2 ⟨rfl, hb⟩)
    go_ret
    exact ⟨rfl, below_al_step hb⟩
  · go_enter Tryd.func49, Tryd.ntmps49
    go_wp2_with (first
      | (go_at_call 28; refine (T.out _).mono ?_; rintro e w2 ⟨rfl, hb⟩; have c1 := new_cell hb (j := 1) rfl)
      | (go_at_call 48; refine (V.out _).mono ?_; rintro e w3 ⟨rfl, rfl⟩))
    go_ret
    exact ⟨by simp, below_al_step hb⟩
end Go.Proofs.YtkodeeneljkgeaaDoor
