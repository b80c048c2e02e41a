/- Layer 2's laws: the document's examples hold; DateBounds, walked. Condition: the world's shape. -/
import Derived.Test.YtpmidmdodjgeeaaDoorDat12
namespace Go.Proofs.YtpmidmdodjgeeaaDoor
open Go.RowKit IH
set_option maxRecDepth 100000

theorem mom_ex : Moment 784111777 1994 11 6 := ⟨by omega, by omega, by omega, by omega, by omega, by decide, by decide⟩
theorem mom_last : Moment 253402300799 9999 12 31 := ⟨by omega, by omega, by omega, by omega, by omega, by decide, by decide⟩
theorem mom_0 : Moment 0 1970 1 1 := ⟨by omega, by omega, by omega, by omega, by omega, by decide, by decide⟩
def exL : List UInt8 := [83, 117, 110, 44, 32, 48, 54, 32, 78, 111, 118, 32, 49, 57, 57, 52, 32, 48, 56, 58, 52, 57, 58, 51, 55, 32, 71, 77, 84]
def exM : List UInt8 := [77, 111, 110, 44, 32, 48, 54, 32, 78, 111, 118, 32, 49, 57, 57, 52, 32, 48, 56, 58, 52, 57, 58, 51, 55, 32, 71, 77, 84]
theorem ex_form : formOf 0 784111777 1994 11 6 = exL := by decide +kernel
theorem ex_parse : parseL exM = (0, 10) := by decide +kernel
theorem last_form : formOf 0 253402300799 9999 12 31 = [70, 114, 105, 44, 32, 51, 49, 32, 68, 101, 99, 32, 57, 57, 57, 57, 32, 50, 51, 58, 53, 57, 58, 53, 57, 32, 71, 77, 84] := by decide +kernel
theorem zero_form : formOf 0 0 1970 1 1 = [84, 104, 117, 44, 32, 48, 49, 32, 74, 97, 110, 32, 49, 57, 55, 48, 32, 48, 48, 58, 48, 48, 58, 48, 48, 32, 71, 77, 84] := by decide +kernel

theorem awake02_any (w : World) (hsh : w.ShapedOpen Tryd.prog) : Calls Tryd.prog 30 #[] w fun e w' => e = .returned (.bool true) ∧ Below w.heap.size w w' := by
  have PR := Print_at mom_ex
  rw [ex_form] at PR
  have PA := fun w hsh => Parse_any ⟨exM.toArray⟩ (by decide) w hsh
  have e1 : (⟨exM.toArray⟩ : ByteArray).data.toList = exM := rfl
  rw [e1, ex_parse] at PA
  unfold exL at PR
  unfold exM at PA
  replace PR := Lib.hid PR
  replace PA := Lib.hid PA
  have Hsh := Lib.hid hsh
  clear hsh e1
  go_enter Tryd.func30, Tryd.ntmps30
  go_wp2_with (first
    | (go_at_call 34; (with_reducible refine (PR.out _).mono ?_); rintro e w2 ⟨rfl, hb2⟩; have B2 := Lib.hid hb2; clear hb2)
    | (go_at_call 31; refine (PA.out _ (shaped_below Hsh.out B2.out)).mono ?_; rintro e w3 ⟨rfl, hb3⟩; have B3 := Lib.hid (below_step B2.out hb3); clear hb3))
  go_ret
  exact ⟨rfl, B3.out⟩
theorem refLast_any (w : World) : Calls Tryd.prog 33 #[] w fun e w' => e = .returned (.int .i64 253402300799) ∧ w = w' := by
  go_enter Tryd.func33, Tryd.ntmps33
  go_wp2
  go_ret
  exact ⟨rfl, rfl⟩

set_option maxHeartbeats 4000000 in
theorem bounds_walk (w : World) (hsh : w.ShapedOpen Tryd.prog) (n : Int) (_hn : (Lit.int .i64 n).wf = true) :
    Calls Tryd.prog 10 #[.int .i64 n] w fun e w' => e = .returned (.bool true) ∧ Below w.heap.size w w' := by
  have AW := Lib.hid (awake02_any w hsh)
  clear hsh
  have PL := Print_at mom_last
  rw [last_form] at PL
  have PZ := Print_at mom_0
  rw [zero_form] at PZ
  replace PL := Lib.hid PL
  replace PZ := Lib.hid PZ
  have hk0 : 0 ≤ Int.tmod (Int.tmod n 1000 + 1000) 1000 ∧ Int.tmod (Int.tmod n 1000 + 1000) 1000 < 1000 := by
    have h1 : -1000 < Int.tmod n 1000 := Int.lt_tmod_of_pos n (by omega)
    have h2 : 0 ≤ Int.tmod n 1000 + 1000 := by omega
    rw [Int.tmod_eq_emod_of_nonneg h2]
    omega
  have h1 : -1000 < Int.tmod n 1000 := Int.lt_tmod_of_pos n (by omega)
  have h1b : Int.tmod n 1000 < 1000 := Int.tmod_lt_of_pos n (by omega)
  go_enter Tryd.func10, Tryd.ntmps10
  go_upto_region 4 with (go_at_call 30; refine AW.out.mono ?_; rintro e w2 ⟨rfl, hb2⟩; have B2 := Lib.hid hb2; clear hb2)
  obtain ⟨k, hk⟩ : ∃ k, (Int.tmod n 1000 + 1000) % 1000 = k := ⟨_, rfl⟩
  have k0 : 0 ≤ k := by omega
  have k1 : k < 1000 := by omega
  rw [hk]
  clear hk hk0 h1 h1b
  have PA := Lib.hid (Print_no (-1 - k) (.inl (by omega)))
  have PB := Lib.hid (Print_no (253402300800 + k) (.inr (by omega)))
  go_wp2_with (first
    | (go_at_call 34; (with_reducible refine (PA.out _).mono ?_); rintro e w3 ⟨rfl, rfl⟩)
    | (go_at_call 34; (with_reducible refine (PB.out _).mono ?_); rintro e w3 ⟨rfl, rfl⟩)
    | (go_at_call 34; (with_reducible refine (PL.out _).mono ?_); rintro e w3 ⟨rfl, hb3⟩; have B3 := Lib.hid (below_step B2.out hb3); clear hb3)
    | (go_at_call 34; (with_reducible refine (PZ.out _).mono ?_); rintro e w4 ⟨rfl, hb4⟩; have B4 := Lib.hid (below_step B3.out hb4); clear hb4)
    | (go_at_call 33; (with_reducible refine (refLast_any _).mono ?_); rintro e w5 ⟨rfl, rfl⟩))
  go_ret
  exact ⟨rfl, B4.out⟩
end Go.Proofs.YtpmidmdodjgeeaaDoor
