/- Layer 2's laws: DateApart, walked. Condition: the world's shape. -/
import Derived.Test.YtpmidmdodjgeeaaDoorLaw02e
import Derived.Test.YtpmidmdodjgeeaaDoorLaw02f
namespace Go.Proofs.YtpmidmdodjgeeaaDoor
open Go.RowKit IH
set_option maxRecDepth 100000
set_option maxHeartbeats 16000000 in
theorem apart_walk (w : World) (hsh : w.ShapedOpen Tryd.prog) (n : Int) (_hn : (Lit.int .i64 n).wf = true) (f : Int) (hf : (Lit.int .i64 f).wf = true) (a b : Int) (ha : (Lit.int .i64 a).wf = true) (hb : (Lit.int .i64 b).wf = true) :
    Calls Tryd.prog 12 #[.int .i64 n, .int .i64 f, .agg #[.int .i64 a, .int .i64 b]] w fun e w' => e = .returned (.bool true) ∧ Below w.heap.size w w' := by
  have AW := Lib.hid (fun w hsh => awake02_any w hsh)
  have Hsh := Lib.hid hsh
  clear hsh
  obtain ⟨f0, f1⟩ := wf_bd hf
  obtain ⟨a0, a1⟩ := wf_bd ha
  obtain ⟨b0, b1⟩ := wf_bd hb
  by_cases h0 : n < 0
  · go_enter Tryd.func12, Tryd.ntmps12
    go_wp2_with fail
    refine (AW.out _ (shaped_below Hsh.out ((Below.refl _ _).alloc (Nat.le_refl _) _))).mono ?_
    rintro e w2 ⟨rfl, hb2⟩
    have B2 := Lib.hid (below_step ((Below.refl _ _).alloc (Nat.le_refl _) _) hb2); clear hb2
    go_wp2_with fail
    refine (AW.out _ (shaped_below Hsh.out B2.out)).mono ?_
    rintro e w3 ⟨rfl, hb3⟩
    have B3 := Lib.hid (below_step B2.out hb3); clear hb3
    go_wp2
    go_ret
    exact ⟨rfl, B3.out⟩
  · by_cases h1 : 253402300799 < n
    · go_enter Tryd.func12, Tryd.ntmps12
      go_wp2_with fail
      refine (AW.out _ (shaped_below Hsh.out ((Below.refl _ _).alloc (Nat.le_refl _) _))).mono ?_
      rintro e w2 ⟨rfl, hb2⟩
      have B2 := Lib.hid (below_step ((Below.refl _ _).alloc (Nat.le_refl _) _) hb2); clear hb2
      go_wp2_with (first | (go_at_call 33; (with_reducible refine (refLast_any _).mono ?_); rintro e w5 ⟨rfl, rfl⟩) | fail)
      refine (AW.out _ (shaped_below Hsh.out B2.out)).mono ?_
      rintro e w3 ⟨rfl, hb3⟩
      have B3 := Lib.hid (below_step B2.out hb3); clear hb3
      go_wp2
      go_ret
      exact ⟨rfl, B3.out⟩
    · have n0 : 0 ≤ n := by omega
      have n1 : n ≤ 253402300799 := by omega
      obtain ⟨y, m, d, hM⟩ := moment_ex n n0 n1
      by_cases hy : 2069 < y
      · exact apart_late w Hsh.out n n0 n1 f hf a b ha hb y m d hM hy
      · exact apart_early w Hsh.out n n0 n1 f hf a b ha hb y m d hM (by omega)
end Go.Proofs.YtpmidmdodjgeeaaDoor
