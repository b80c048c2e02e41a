/- Layer 2's laws: DateParses, walked. Condition: the world's shape. -/
import Derived.Test.YtpmidmdodjgeeaaDoorLaw02a
import Derived.Test.YtpmidmdodjgeeaaDoorRefG
namespace Go.Proofs.YtpmidmdodjgeeaaDoor
open Go.RowKit IH
set_option maxRecDepth 100000
set_option maxHeartbeats 4000000 in
theorem parses_walk (w : World) (hsh : w.ShapedOpen Tryd.prog) (s : ByteArray) (_ws : s.size ≤ maxLen) :
    Calls Tryd.prog 8 #[.string s] w fun e w' => e = .returned (.bool true) ∧ Below w.heap.size w w' := by
  have AW := Lib.hid (fun w hsh => awake02_any w hsh)
  have Hsh := Lib.hid hsh
  clear hsh
  by_cases h500 : 500 < s.size
  · go_enter Tryd.func8, Tryd.ntmps8
    go_wp2_with fail
    refine (AW.out _ Hsh.out).mono ?_
    rintro e w2 ⟨rfl, hb2⟩
    have B2 := Lib.hid hb2; clear hb2
    go_wp2_with fail
    refine (AW.out _ (shaped_below Hsh.out B2.out)).mono ?_
    rintro e w3 ⟨rfl, hb3⟩
    have B3 := Lib.hid (below_step B2.out hb3); clear hb3
    go_wp2
    go_ret
    exact ⟨rfl, B3.out⟩
  · have PA := fun w hsh => Parse_any s (by omega) w hsh
    have PR := refParse_any s (by omega)
    rw [← parse_eq] at PR
    obtain ⟨x, y⟩ := parseL s.data.toList
    replace PA := Lib.hid PA
    replace PR := Lib.hid PR
    go_enter Tryd.func8, Tryd.ntmps8
    go_wp2_with fail
    refine (AW.out _ Hsh.out).mono ?_
    rintro e w2 ⟨rfl, hb2⟩
    have B2 := Lib.hid hb2; clear hb2
    go_wp2_with (first
      | (go_at_call 31; refine (PA.out _ (shaped_below Hsh.out B2.out)).mono ?_; rintro e w3 ⟨rfl, hb3⟩; have B3 := Lib.hid (below_step B2.out hb3); clear hb3)
      | (go_at_call 32; (with_reducible refine (PR.out _).mono ?_); rintro e w4 ⟨rfl, hb4⟩; have B4 := Lib.hid (below_step B3.out hb4); clear hb4))
    go_ret
    exact ⟨ret_bool (by simp), B4.out⟩
end Go.Proofs.YtpmidmdodjgeeaaDoor
