/- Layer 28's laws: AccessParses, walked. Condition: the world's shape. -/
import Derived.Test.YtaddefjkjlkjnaaDoorAw28
import Derived.Test.YtaddefjkjlkjnaaDoorAcc3
import Derived.Test.YtaddefjkjlkjnaaDoorAcc19
import Derived.Test.YtaddefjkjlkjnaaDoorAcc21
namespace Go.Proofs.YtaddefjkjlkjnaaDoor
open Go.RowKit IH
set_option maxRecDepth 100000
theorem readF_len (one : List UInt8 → Option Reply) : ∀ (f : Nat) (s : List UInt8) (out : List Reply), out.length ≤ 10000 → (readF one f s out).1.length ≤ 10000
  | 0, _, _, _ => by simp [readF]
  | f + 1, s, out, h => by
    unfold readF
    split
    · exact h
    · split
      · simp
      · split
        · simp
        · split
          · simp
          · exact readF_len one f _ _ (by rw [List.length_append]; simp; omega)
theorem readL_len (one : List UInt8 → Option Reply) (s : List UInt8) : (readL one s).1.length ≤ 10000 := by
  unfold readL
  split
  · simp
  · exact readF_len one _ _ _ (by simp)
set_option maxHeartbeats 4000000 in
theorem aparses_walk (w : World) (hsh : w.ShapedOpen Tryd.prog) (s : ByteArray) (_hs : s.size ≤ 9223372036854775807) : Calls Tryd.prog 6 #[.string s] w fun e w' => e = .returned (.bool true) ∧ Below w.heap.size w w' := by
  have AW := Lib.hid (fun w => awake28_any w)
  by_cases h3 : 3000 < s.size
  · clear hsh
    go_enter Tryd.func6, Tryd.ntmps6
    go_wp2_with fail
    refine (AW.out _).mono ?_
    rintro e w2 ⟨rfl, hb2⟩
    have B2 := Lib.hid hb2; clear hb2
    go_wp2_with fail
    refine (AW.out _).mono ?_
    rintro e w3 ⟨rfl, hb3⟩
    have B3 := Lib.hid (below_step B2.out hb3); clear hb3
    go_wp2
    go_ret
    exact ⟨rfl, B3.out⟩
  · obtain ⟨U, hU⟩ : ∃ U, readL one28 s.data.toList = U := ⟨_, rfl⟩
    have hUl : U.1.length ≤ 10000 := by rw [← hU]; exact readL_len _ _
    have PA := fun (W : World) (hb : Below w.heap.size w W) => aParse_any s (by omega) W (shaped_below hsh hb)
    have PR := fun (W : World) => refParse28_any s (by omega) W
    rw [hU] at PA PR
    replace PA := Lib.hid PA
    replace PR := Lib.hid PR
    obtain ⟨L, hL⟩ : ∃ L, U.1 = L := ⟨_, rfl⟩
    obtain ⟨x, hx⟩ : ∃ x, U.2.1 = x := ⟨_, rfl⟩
    obtain ⟨y, hy⟩ : ∃ y, U.2.2 = y := ⟨_, rfl⟩
    rw [hL, hx, hy] at PA PR
    rw [hL] at hUl
    clear hU hL hx hy hsh
    go_enter Tryd.func6, Tryd.ntmps6
    go_wp2_with (first
      | (go_at_call 23; refine (AW.out _).mono ?_; rintro e w2 ⟨rfl, hb2⟩; have B2 := Lib.hid hb2; clear hb2)
      | (go_at_call 31; refine (PA.out _ B2.out).mono ?_; rintro e w3 ⟨v3, rfl, ho3, hb3⟩; have B3 := Lib.hid (below_step B2.out hb3); obtain ⟨A3, c3, rfl, hs3⟩ := own_slice ho3; have S3 := Lib.hid hs3; clear ho3 hb3 hs3)
      | (go_at_call 33; refine (PR.out _).mono ?_; rintro e w4 ⟨v4, rfl, ho4, hb4⟩; have B4 := Lib.hid (below_step B3.out hb4); obtain ⟨A4, c4, rfl, hs4⟩ := own_slice ho4; have SM := Lib.hid (Same_told L A3 A4 L.length c3 c4 w4 ((S3.out.below hb4).more hb4.size) hs4 (by omega)); clear ho4 hb4 hs4)
      | (go_at_call 32; refine SM.out.mono ?_; rintro e w5 ⟨rfl, q, rfl⟩; have B5 := Lib.hid (below_drewN B4.out q)))
    go_ret
    exact ⟨ret_bool (by simp), B5.out⟩
end Go.Proofs.YtaddefjkjlkjnaaDoor
