/- Walks of layer 2: the calendar's small functions. Condition: years from 1 to 100000. -/
import Derived.Test.YtpmidmdodjgeeaaDoorPlan
import Derived.Test.YtpmidmdodjgeeaaDoorMem
import Derived.Test.YtpmidmdodjgeeaaDoorCal1
namespace Go.Proofs.YtpmidmdodjgeeaaDoor
open Go.RowKit IH
set_option maxRecDepth 100000

theorem leap_any (y : Int) (h0 : 0 ≤ y) (h1 : y ≤ 100000) (w : World) :
    Calls Tryd.prog 114 #[.int .i64 y] w fun e w' => e = .returned (.bool (leapB y)) ∧ w = w' := by
  unfold leapB
  generalize h4 : (y % 4 == 0) = a
  generalize h100 : (y % 100 == 0) = b
  generalize h400 : (y % 400 == 0) = c
  have hn : (y % 100 != 0) = !b := by rw [bne, h100]
  cases a <;> cases b <;> cases c
  all_goals
    go_enter Tryd.func114, Tryd.ntmps114
    go_wp2
    go_ret
    exact ⟨rfl, rfl⟩

theorem length_any (y m : Int) (h0 : 0 ≤ y) (h1 : y ≤ 100000) (w : World) :
    Calls Tryd.prog 84 #[.int .i64 y, .int .i64 m] w fun e w' => e = .returned (.int .i64 (mlen y m)) ∧ w = w' := by
  have L := Lib.hid (leap_any y h0 h1)
  by_cases h2 : m = 2
  · subst h2
    have hv := leapB_val y
    cases hb : leapB y
    all_goals
      have e : mlen y 2 = 28 + leapN y := rfl
      rw [hb] at hv L
      simp only [if_true, if_false, Bool.false_eq_true] at hv
      rw [e, hv]
      clear e hv hb
      go_enter Tryd.func84, Tryd.ntmps84
      go_wp2_with (go_at_call 114; refine (L.out _).mono ?_; rintro e w' ⟨rfl, rfl⟩)
      go_ret
      exact ⟨rfl, rfl⟩
  · have b2 : (m == 2) = false := by simpa using h2
    generalize h4 : (m == 4) = a
    generalize h6 : (m == 6) = b
    generalize h9 : (m == 9) = c
    generalize h11 : (m == 11) = d
    have e : mlen y m = if a || b || c || d then 30 else 31 := by
      unfold mlen
      rw [if_neg h2]
      subst h4 h6 h9 h11
      simp only [Bool.or_eq_true, beq_iff_eq, or_assoc]
    rw [e]
    clear e h2 L
    cases a <;> cases b <;> cases c <;> cases d
    all_goals
      go_enter Tryd.func84, Tryd.ntmps84
      go_wp2
      go_ret
      exact ⟨rfl, rfl⟩

theorem ahead_any (y : Int) (h0 : 1 ≤ y) (h1 : y ≤ 100000) (w : World) :
    Calls Tryd.prog 83 #[.int .i64 y] w fun e w' => e = .returned (.int .i64 (dby y)) ∧ w = w' := by
  have a0 : 0 ≤ y - 1 := by omega
  have a1 : y - 1 ≤ 100000 := by omega
  go_enter Tryd.func83, Tryd.ntmps83
  go_wp2
  go_ret
  refine ⟨ret_int ?_, rfl⟩
  unfold dby
  omega
end Go.Proofs.YtpmidmdodjgeeaaDoor
