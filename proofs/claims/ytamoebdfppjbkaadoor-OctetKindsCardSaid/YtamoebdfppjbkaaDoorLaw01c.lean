/- The laws OctetKinds and OctetTrims, walked: they return true. No condition. -/
import Derived.Test.YtamoebdfppjbkaaDoorAw01
import Derived.Test.YtamoebdfppjbkaaDoorOct12
import Derived.Test.YtamoebdfppjbkaaDoorMath5
namespace Go.Proofs.YtamoebdfppjbkaaDoor
open Go.RowKit IH
set_option maxRecDepth 100000

set_option maxHeartbeats 4000000 in
theorem kinds_walk (w : World) (s : ByteArray) (_ws : s.size ≤ maxLen) :
    Calls Tryd.prog 5 #[.string s] w fun e w' => e = .returned (.bool true) ∧ Below w.heap.size w w' := by
  by_cases h500 : 5000 < s.size
  · go_enter Tryd.func5, Tryd.ntmps5
    go_wp2_with fail
    refine (awake01_any _).mono ?_
    rintro e w1 ⟨rfl, hb1⟩
    go_wp2_with fail
    refine (awake01_any _).mono ?_
    rintro e w2 ⟨rfl, hb2⟩
    go_wp2
    go_ret
    exact ⟨rfl, hb1.trans (hb2.mono hb1.size)⟩
  · have hs : s.size ≤ 1000000000 := by omega
    have C1 := Lib.hid (Token_any s hs)
    have C2 := Lib.hid (refToken_any s hs)
    have C3 := Lib.hid (Value_any s hs)
    have C4 := Lib.hid (refValue_any s hs)
    have C5 := Lib.hid (Trim_any s hs)
    have C6 := Lib.hid (refTrim_2 s hs)
    have C7 := Lib.hid (Lower_any s hs)
    have C8 := Lib.hid (refLower_any s hs)
    generalize token s.data.toList = x1 at *
    generalize value s.data.toList = x2 at *
    generalize (trim s.data.toList).toArray = x3 at *
    generalize (lower s.data.toList).toArray = x4 at *
    clear hs
    go_enter Tryd.func5, Tryd.ntmps5
    go_wp2_with fail
    refine (awake01_any _).mono ?_
    rintro e w1 ⟨rfl, hb1⟩
    go_wp2_with (first
      | (go_at_call 22; (with_reducible refine (C1.out _).mono ?_); rintro e w2 ⟨rfl, rfl⟩)
      | (go_at_call 23; (with_reducible refine (C2.out _).mono ?_); rintro e w3 ⟨rfl, hb3⟩)
      | (go_at_call 24; (with_reducible refine (C3.out _).mono ?_); rintro e w4 ⟨rfl, hb4⟩)
      | (go_at_call 25; (with_reducible refine (C4.out _).mono ?_); rintro e w5 ⟨rfl, rfl⟩)
      | (go_at_call 26; (with_reducible refine (C5.out _).mono ?_); rintro e w6 ⟨rfl, hb6⟩)
      | (go_at_call 27; (with_reducible refine (C6.out _).mono ?_); rintro e w7 ⟨rfl, rfl⟩)
      | (go_at_call 28; (with_reducible refine (C7.out _).mono ?_); rintro e w8 ⟨rfl, hb8⟩)
      | (go_at_call 29; (with_reducible refine (C8.out _).mono ?_); rintro e w9 ⟨rfl, hb9⟩))
    go_ret
    have h3 := hb1.trans (hb3.mono hb1.size)
    have h4 := h3.trans (hb4.mono h3.size)
    have h6 := h4.trans (hb6.mono h4.size)
    have h8 := h6.trans (hb8.mono h6.size)
    exact ⟨rfl, h8.trans (hb9.mono h8.size)⟩

set_option maxHeartbeats 8000000 in
theorem trims_walk (w : World) (s : ByteArray) (_ws : s.size ≤ maxLen) (b : ByteArray) (_wb : b.size ≤ maxLen) :
    Calls Tryd.prog 6 #[.string s, .string b] w fun e w' => e = .returned (.bool true) ∧ Below w.heap.size w w' := by
  by_cases hg : 2000 < s.size ∨ 50 < b.size ∨ trim b.data.toList ≠ []
  · have T := Lib.hid (refTrim_2 b)
    have hq : 2000 < s.size ∨ (s.size ≤ 2000 ∧ 50 < b.size) ∨ (s.size ≤ 2000 ∧ b.size ≤ 50 ∧ trim b.data.toList ≠ []) := by
      by_cases h1 : 2000 < s.size
      · exact .inl h1
      · by_cases h2 : 50 < b.size
        · exact .inr (.inl ⟨by omega, h2⟩)
        · exact .inr (.inr ⟨by omega, by omega, by rcases hg with h | h | h; omega; omega; exact h⟩)
    clear hg
    rcases hq with h1 | ⟨h1, h2⟩ | ⟨h1, h2, h3⟩
    · go_enter Tryd.func6, Tryd.ntmps6
      go_wp2_with fail
      refine (awake01_any _).mono ?_
      rintro e w1 ⟨rfl, hb1⟩
      go_wp2_with fail
      refine (awake01_any _).mono ?_
      rintro e w2 ⟨rfl, hb2⟩
      go_wp2
      go_ret
      exact ⟨rfl, hb1.trans (hb2.mono hb1.size)⟩
    · go_enter Tryd.func6, Tryd.ntmps6
      go_wp2_with fail
      refine (awake01_any _).mono ?_
      rintro e w1 ⟨rfl, hb1⟩
      go_wp2_with fail
      refine (awake01_any _).mono ?_
      rintro e w2 ⟨rfl, hb2⟩
      go_wp2
      go_ret
      exact ⟨rfl, hb1.trans (hb2.mono hb1.size)⟩
    · have T2 := Lib.hid (T.out (by omega))
      have h4 : (⟨(trim b.data.toList).toArray⟩ : ByteArray).toList.isEmpty = false := by
        rw [ByteArray.toList_eq]; simpa using h3
      generalize (⟨(trim b.data.toList).toArray⟩ : ByteArray) = X at *
      clear T h3
      go_enter Tryd.func6, Tryd.ntmps6
      go_wp2_with fail
      refine (awake01_any _).mono ?_
      rintro e w1 ⟨rfl, hb1⟩
      go_wp2_with (go_at_call 27; (with_reducible refine (T2.out _).mono ?_); rintro e w7 ⟨rfl, rfl⟩)
      refine (awake01_any _).mono ?_
      rintro e w2 ⟨rfl, hb2⟩
      go_wp2
      go_ret
      exact ⟨rfl, hb1.trans (hb2.mono hb1.size)⟩
  · have h1 : s.size ≤ 2000 := by omega
    have h2 : b.size ≤ 50 := by omega
    have h3 : trim b.data.toList = [] := by
      by_cases h : trim b.data.toList = []
      · exact h
      · exact absurd (.inr (.inr h)) hg
    have T0 := Lib.hid (refTrim_2 b (by omega))
    rw [h3] at T0
    have C1 := Lib.hid (Trim_any s (by omega))
    obtain ⟨T, hT⟩ : ∃ T, T = (⟨(trim s.data.toList).toArray⟩ : ByteArray) := ⟨_, rfl⟩
    have hTs : T.size ≤ 2000 := by rw [hT, size_mk]; have := trim_length s.data.toList; rw [data_len] at this; omega
    have C2 := Lib.hid (Trim_any T (by omega))
    have eT : trim T.data.toList = trim s.data.toList := by rw [hT]; exact trim_idem _
    have hbs : (b ++ s ++ b).size ≤ 3000 := by simp only [ByteArray.size_append]; omega
    have C3 := Lib.hid (Trim_any (b ++ s ++ b) (by omega))
    have eB : trim (b ++ s ++ b).data.toList = trim s.data.toList := by rw [append_data, append_data]; exact trim_around h3 _
    rw [eB, ← hT] at C3
    rw [eT, ← hT] at C2
    rw [← hT] at C1
    obtain ⟨L, hL⟩ : ∃ L, L = (⟨(lower s.data.toList).toArray⟩ : ByteArray) := ⟨_, rfl⟩
    have hLs : L.size = s.size := by rw [hL, size_mk, lower_length, data_len]
    have C4 := Lib.hid (Lower_any s (by omega))
    have C5 := Lib.hid (Lower_any L (by omega))
    have eL : lower L.data.toList = lower s.data.toList := by rw [hL]; exact lower_idem _
    rw [eL, ← hL] at C5
    rw [← hL] at C4
    have C6 := Lib.hid (Token_any s (by omega))
    have C7 := Lib.hid (Token_any L (by omega))
    have C8 := Lib.hid (Value_any s (by omega))
    have hbs2 : (b ++ s).size ≤ 3000 := by simp only [ByteArray.size_append]; omega
    by_cases hk : token s.data.toList = true
    · obtain ⟨k1, k2⟩ := token_value _ hk
      have k3 : token L.data.toList = true := by rw [hL]; exact k2
      rw [hk] at C6
      rw [k3] at C7
      rw [k1] at C8
      clear hk k1 k2 k3 eL eT eB hT hL h3 hg
      have HLs := Lib.hid hLs
      have hLi : ((L.size : Int) == (s.size : Int)) = true := by rw [beq_iff_eq, hLs]
      clear hLs
      go_enter Tryd.func6, Tryd.ntmps6
      go_wp2_with fail
      refine (awake01_any _).mono ?_
      rintro e w1 ⟨rfl, hbel⟩
      go_wp2_with (first
        | (go_at_call 27; (with_reducible refine (T0.out _).mono ?_); rintro e w2 ⟨rfl, rfl⟩)
        | (go_at_call 26; (with_reducible refine (C1.out _).mono ?_); rintro e w3 ⟨rfl, hb3⟩; replace hbel := hbel.trans (hb3.mono hbel.size); clear hb3)
        | (go_at_call 26; (with_reducible refine (C2.out _).mono ?_); rintro e w3 ⟨rfl, hb3⟩; replace hbel := hbel.trans (hb3.mono hbel.size); clear hb3)
        | (go_at_call 26; (with_reducible refine (C3.out _).mono ?_); rintro e w3 ⟨rfl, hb3⟩; replace hbel := hbel.trans (hb3.mono hbel.size); clear hb3)
        | (go_at_call 28; (with_reducible refine (C4.out _).mono ?_); rintro e w3 ⟨rfl, hb3⟩; replace hbel := hbel.trans (hb3.mono hbel.size); clear hb3)
        | (go_at_call 28; (with_reducible refine (C5.out _).mono ?_); rintro e w3 ⟨rfl, hb3⟩; replace hbel := hbel.trans (hb3.mono hbel.size); clear hb3)
        | (go_at_call 22; (with_reducible refine (C6.out _).mono ?_); rintro e w2 ⟨rfl, rfl⟩)
        | (go_at_call 24; (with_reducible refine (C8.out _).mono ?_); rintro e w3 ⟨rfl, hb3⟩; replace hbel := hbel.trans (hb3.mono hbel.size); clear hb3)
        | (go_at_call 22; (with_reducible refine (C7.out _).mono ?_); rintro e w2 ⟨rfl, rfl⟩))
      go_ret
      exact ⟨rfl, hbel⟩
    · have hk' : token s.data.toList = false := by simpa using hk
      rw [hk'] at C6
      clear hk hk' eL eT eB hT hL h3 hg C7 C8
      have HLs := Lib.hid hLs
      have hLi : ((L.size : Int) == (s.size : Int)) = true := by rw [beq_iff_eq, hLs]
      clear hLs
      go_enter Tryd.func6, Tryd.ntmps6
      go_wp2_with fail
      refine (awake01_any _).mono ?_
      rintro e w1 ⟨rfl, hbel⟩
      go_wp2_with (first
        | (go_at_call 27; (with_reducible refine (T0.out _).mono ?_); rintro e w2 ⟨rfl, rfl⟩)
        | (go_at_call 26; (with_reducible refine (C1.out _).mono ?_); rintro e w3 ⟨rfl, hb3⟩; replace hbel := hbel.trans (hb3.mono hbel.size); clear hb3)
        | (go_at_call 26; (with_reducible refine (C2.out _).mono ?_); rintro e w3 ⟨rfl, hb3⟩; replace hbel := hbel.trans (hb3.mono hbel.size); clear hb3)
        | (go_at_call 26; (with_reducible refine (C3.out _).mono ?_); rintro e w3 ⟨rfl, hb3⟩; replace hbel := hbel.trans (hb3.mono hbel.size); clear hb3)
        | (go_at_call 28; (with_reducible refine (C4.out _).mono ?_); rintro e w3 ⟨rfl, hb3⟩; replace hbel := hbel.trans (hb3.mono hbel.size); clear hb3)
        | (go_at_call 28; (with_reducible refine (C5.out _).mono ?_); rintro e w3 ⟨rfl, hb3⟩; replace hbel := hbel.trans (hb3.mono hbel.size); clear hb3)
        | (go_at_call 22; (with_reducible refine (C6.out _).mono ?_); rintro e w2 ⟨rfl, rfl⟩))
      go_ret
      exact ⟨rfl, hbel⟩
end Go.Proofs.YtamoebdfppjbkaaDoor
