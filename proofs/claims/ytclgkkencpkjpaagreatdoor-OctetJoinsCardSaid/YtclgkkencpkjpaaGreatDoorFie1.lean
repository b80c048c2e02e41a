/- Walks of layer 3: is a field right, is it of a name. Condition: texts take at most 10^9 octets. -/
import Derived.Test.YtclgkkencpkjpaaGreatDoorFlat
import Derived.Test.YtclgkkencpkjpaaGreatDoorOct12
import Derived.Test.YtclgkkencpkjpaaGreatDoorOct4
namespace Go.Proofs.YtclgkkencpkjpaaGreatDoor
open Go.RowKit IH
set_option maxRecDepth 100000
theorem below_al (w : World) (o : Obj) : Below w.heap.size w (w.alloc o) := (Below.refl _ _).alloc (Nat.le_refl _) _
theorem below_al_step {w w' : World} {o : Obj} (h : Below (w.alloc o).heap.size (w.alloc o) w') : Below w.heap.size w w' := below_step (below_al w o) h
theorem new_cell {w w' : World} {e : TypeId} {cs : List Value} (hb : Below (w.alloc (.cells cs.toArray e)).heap.size (w.alloc (.cells cs.toArray e)) w') {j : Nat} {v : Value} (h : cs[j]? = some v) : w'.cell? ⟨w.heap.size, j, none⟩ = some v :=
  ((RowAt.new w e cs).below hb (by simp)).cell h
theorem fright_any (f : Fld) (h1 : f.1.length ≤ 1000000000) (h2 : f.2.length ≤ 1000000000) (w : World) :
    Calls Tryz.prog 203 #[.agg #[.string ⟨f.1.toArray⟩, .string ⟨f.2.toArray⟩]] w fun e w' => e = .returned (.bool (fit f)) ∧ Below w.heap.size w w' := by
  have T : ∀ w, Calls Tryz.prog 221 #[.string ⟨f.1.toArray⟩] w fun e w' => e = .returned (.bool (token f.1)) ∧ w = w' := fun w => Token_any ⟨f.1.toArray⟩ (by rw [size_mk]; exact h1) w
  have V : ∀ w, Calls Tryz.prog 223 #[.string ⟨f.2.toArray⟩] w fun e w' => e = .returned (.bool (value f.2)) ∧ Below w.heap.size w w' := fun w => Value_any ⟨f.2.toArray⟩ (by rw [size_mk]; exact h2) w
  have e : fit f = (token f.1 && value f.2) := rfl
  rw [e]
  generalize token f.1 = t at *
  generalize value f.2 = v at *
  generalize (⟨f.1.toArray⟩ : ByteArray) = X at *
  generalize (⟨f.2.toArray⟩ : ByteArray) = Y at *
  replace T := Lib.hid T
  replace V := Lib.hid V
  clear e h1 h2
  cases t
  · go_enter Tryz.func203, Tryz.ntmps203
    go_wp2_with (go_at_call 221; refine (T.out _).mono ?_; rintro e w2 ⟨rfl, rfl⟩)
    go_ret
    exact ⟨rfl, below_al _ _⟩
  · go_enter Tryz.func203, Tryz.ntmps203
    go_wp2_with (first
      | (go_at_call 221; refine (T.out _).mono ?_; rintro e w2 ⟨rfl, rfl⟩)
      | (go_at_call 223; refine (V.out _).mono ?_; rintro e w3 ⟨rfl, hb⟩))
    go_ret
    exact ⟨by simp, below_al_step hb⟩
theorem fits_any (f : Fld) (h1 : f.1.length ≤ 1000000000) (h2 : f.2.length ≤ 1000000000) (w : World) :
    Calls Tryz.prog 137 #[.agg #[.string ⟨f.1.toArray⟩, .string ⟨f.2.toArray⟩]] w fun e w' => e = .returned (.bool (fit f)) ∧ Below w.heap.size w w' := by
  have T : ∀ w, Calls Tryz.prog 18 #[.string ⟨f.1.toArray⟩] w fun e w' => e = .returned (.bool (token f.1)) ∧ Below w.heap.size w w' := fun w => refToken_any ⟨f.1.toArray⟩ (by rw [size_mk]; exact h1) w
  have V : ∀ w, Calls Tryz.prog 136 #[.string ⟨f.2.toArray⟩] w fun e w' => e = .returned (.bool (value f.2)) ∧ w = w' := fun w => refValue_any ⟨f.2.toArray⟩ (by rw [size_mk]; exact h2) w
  have e : fit f = (token f.1 && value f.2) := rfl
  rw [e]
  generalize token f.1 = t at *
  generalize value f.2 = v at *
  generalize (⟨f.1.toArray⟩ : ByteArray) = X at *
  generalize (⟨f.2.toArray⟩ : ByteArray) = Y at *
  replace T := Lib.hid T
  replace V := Lib.hid V
  clear e h1 h2
  cases t
  · go_enter Tryz.func137, Tryz.ntmps137
    go_wp2_with (go_at_call 18; refine (T.out _).mono ?_; rintro e w2 ⟨rfl, hb⟩)
    go_ret
    exact ⟨rfl, below_al_step hb⟩
  · go_enter Tryz.func137, Tryz.ntmps137
    go_wp2_with (first
      | (go_at_call 18; refine (T.out _).mono ?_; rintro e w2 ⟨rfl, hb⟩; have c1 := new_cell hb (j := 1) rfl)
      | (go_at_call 136; refine (V.out _).mono ?_; rintro e w3 ⟨rfl, rfl⟩))
    go_ret
    exact ⟨by simp, below_al_step hb⟩
theorem is_any (f : Fld) (s : ByteArray) (h1 : f.1.length ≤ 1000000000) (hs : s.size ≤ 1000000000) (w : World) :
    Calls Tryz.prog 145 #[.agg #[.string ⟨f.1.toArray⟩, .string ⟨f.2.toArray⟩], .string s] w fun e w' => e = .returned (.bool (isN f s.data.toList)) ∧ Below w.heap.size w w' := by
  have L1 : ∀ w, Calls Tryz.prog 107 #[.string ⟨f.1.toArray⟩] w fun e w' => e = .returned (.string ⟨(lower f.1).toArray⟩) ∧ Below w.heap.size w w' := fun w => Lower_any ⟨f.1.toArray⟩ (by rw [size_mk]; exact h1) w
  have L2 := Lower_any s hs
  have e : isN f s.data.toList = ((⟨(lower f.1).toArray⟩ : ByteArray).toList == (⟨(lower s.data.toList).toArray⟩ : ByteArray).toList) := by
    rw [ByteArray.toList_eq, ByteArray.toList_eq]; rfl
  rw [e]
  generalize (⟨(lower f.1).toArray⟩ : ByteArray) = X1 at *
  generalize (⟨(lower s.data.toList).toArray⟩ : ByteArray) = X2 at *
  generalize (⟨f.1.toArray⟩ : ByteArray) = Y1 at *
  generalize (⟨f.2.toArray⟩ : ByteArray) = Y2 at *
  replace L1 := Lib.hid L1
  replace L2 := Lib.hid L2
  clear e h1 hs
  go_enter Tryz.func145, Tryz.ntmps145
  go_wp2_with (first
    | (go_at_call 107; (with_reducible refine (L1.out _).mono ?_); rintro e w2 ⟨rfl, hb2⟩; have B2 := Lib.hid hb2; clear hb2)
    | (go_at_call 107; (with_reducible refine (L2.out _).mono ?_); rintro e w3 ⟨rfl, hb3⟩; have B3 := Lib.hid (below_step B2.out hb3); clear hb3))
  go_ret
  exact ⟨rfl, below_al_step B3.out⟩
end Go.Proofs.YtclgkkencpkjpaaGreatDoor
