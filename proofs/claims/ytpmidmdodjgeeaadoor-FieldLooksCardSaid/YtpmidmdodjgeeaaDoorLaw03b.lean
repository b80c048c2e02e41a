/- Layer 3's laws: FieldParses, walked. Condition: the world's shape. -/
import Derived.Test.YtpmidmdodjgeeaaDoorLaw03a
import Derived.Test.YtpmidmdodjgeeaaDoorAppN
namespace Go.Proofs.YtpmidmdodjgeeaaDoor
open Go.RowKit IH
set_option maxRecDepth 100000
theorem parseF_len : ∀ (k N a : Nat) (rest : List UInt8) (out : List Fld), out.length ≤ 128 → (parseF k N a rest out).1.length ≤ 128 := by
  intro k
  induction k with
  | zero => intro N a rest out _; unfold parseF; simp
  | succ k ih =>
    intro N a rest out h
    unfold parseF
    split
    · simp
    · split
      · exact h
      · split
        · simp
        · split
          · simp
          · rename_i hne
            exact ih _ _ _ _ (by simp; omega)
theorem parseFs_len (l : List UInt8) : (parseFs l).1.length ≤ 128 := parseF_len _ _ _ _ _ (by simp)
set_option maxHeartbeats 4000000 in
theorem fparses_walk (w : World) (hsh : w.ShapedOpen Tryd.prog) (A : Option Addr) (n c : Nat) (L : List UInt8) (hin : SliceIn w w.heap.size 1 A n c (bytesV L)) :
    Calls Tryd.prog 3 #[.slice A n c] w fun e w' => e = .returned (.bool true) ∧ Below w.heap.size w w' := by
  have AW := Lib.hid (fun w hsh => awake03_any w hsh)
  have Hsh := Lib.hid hsh
  have Hin := Lib.hid hin
  clear hsh hin
  by_cases h5 : 5000 < n
  · have h5I : (5000 : Int) < (n : Int) := by omega
    go_enter Tryd.func3, Tryd.ntmps3
    go_wp2_with fail
    refine (AW.out _ Hsh.out).mono ?_
    rintro e w2 ⟨rfl, hb2⟩
    have B2 := Lib.hid hb2; clear hb2
    go_wp2_with fail
    refine (AW.out _ (shaped_below Hsh.out B2.out)).mono ?_
    rintro e w3 ⟨rfl, hb3⟩
    have B3 := Lib.hid (below_step B2.out hb3); clear hb3
    go_wp2
    go_ret
    exact ⟨rfl, B3.out⟩
  · have h5I : (n : Int) ≤ (5000 : Int) := by omega
    obtain ⟨U, hU⟩ : ∃ U, parseFs L = U := ⟨_, rfl⟩
    have hUl : U.1.length ≤ 128 := by rw [← hU]; exact parseFs_len L
    have HU := Lib.hid hU
    clear hU
    go_enter Tryd.func3, Tryd.ntmps3
    go_wp2_with fail
    refine (AW.out _ Hsh.out).mono ?_
    rintro e w2 ⟨rfl, hb2⟩
    have B2 := Lib.hid hb2; clear hb2
    have hown := World.ownsRow_lit (base := w2.heap.size) (e := 5) (size := 1) w2 #[] 0 (Nat.le_refl _) (by simp [maxLen]) rfl
    have Hown := Lib.hid hown
    have Hin2 := Lib.hid ((Hin.out.below B2.out).alloc B2.out.size (.cells #[] 5))
    clear hown
    go_wp2_with (first
      | (at_builtin; refine wpList_appN u8_ty rfl _ _ rfl w2.heap.size _ 0 [] rfl Hown.out (by intro h; cases h) w.heap.size A n c (bytesV L) rfl Hin2.out (bytesV_one L) (by omega) (by simp only [maxLen]; omega) (by simp) ?_; intro g cap w3 hown' hgr; rw [Nat.zero_add, List.nil_append] at hown'; simp only [Nat.zero_add]; have B3 := Lib.hid ((B2.out.alloc B2.out.size (.cells #[] 5)).grown hgr (by have := B2.out.size; simp; omega) (fun q hq => by have := (Hown.out.lt q hq).1; have := B2.out.size; omega)); have PA := fparse_any g 0 n cap L w3 (shaped_below Hsh.out B3.out) (SliceIn.of_own hown') (by omega); rw [HU.out] at PA; have HPA := Lib.hid PA; clear PA hown' hgr)
      | (go_at_call 14; refine HPA.out.mono ?_; rintro e w4 ⟨v4, rfl, hrow4, hb4⟩; have B4 := Lib.hid (below_step B3.out hb4); obtain ⟨A4, C4, rfl, hsl4⟩ := own_slice hrow4; have R4 := Lib.hid hsl4; clear hrow4 hb4 hsl4)
      | (go_at_call 15; have RP := refParse3_any A n c L w4 ((Hin.out.below B4.out).more B4.out.size) (by omega); rw [HU.out] at RP; refine RP.mono ?_; clear RP; rintro e w5 ⟨v5, rfl, hrow5, hb5⟩; have B5 := Lib.hid (below_step B4.out hb5); have R5 := Lib.hid ((R4.out.below hb5).more hb5.size); obtain ⟨A5, C5, rfl, hsl5⟩ := own_slice hrow5; have SA := Lib.hid (refSame3_any A4 U.1.length C4 A5 U.1.length C5 U.1 w5 R5.out hsl5 (by omega)); clear hrow5 hb5 hsl5)
      | (go_at_call 16; refine SA.out.mono ?_; rintro e w6 ⟨rfl, hb6⟩; have B6 := Lib.hid (below_step B5.out hb6); clear hb6))
    go_ret
    exact ⟨ret_bool (by simp), B6.out⟩
end Go.Proofs.YtpmidmdodjgeeaaDoor
