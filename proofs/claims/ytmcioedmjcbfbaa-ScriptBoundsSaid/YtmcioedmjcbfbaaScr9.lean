/- Walks of layer 27: the number of a text, by the code. Condition: texts within 10^9 octets. -/
import Derived.Test.YtmcioedmjcbfbaaScr8
import Derived.Test.YtmcioedmjcbfbaaOct8
import Derived.Test.YtmcioedmjcbfbaaPm
import Derived.Test.YtmcioedmjcbfbaaShelf
namespace Go.Proofs.Ytmcioedmjcbfbaa
open Go.RowKit IH
set_option maxRecDepth 100000
theorem CutPrefix_any (s p : ByteArray) (w : World) :
    Calls Try.prog 85 #[.string s, .string p] w fun e w' => e = .returned (.tuple #[.string ⟨(Lib.trimPrefix s.data.toList p.data.toList).toArray⟩, .bool (Lib.hasPrefix s.data.toList p.data.toList)]) ∧ w = w' :=
  (Try.strings_CutPrefix s p w).mono fun _ _ ⟨h1, h2⟩ => ⟨h1, h2.symm⟩
theorem pre45 (l : List UInt8) : (l.head? = some 45 ∧ Lib.hasPrefix l [45] = true ∧ Lib.trimPrefix l [45] = l.drop 1) ∨ (l.head? ≠ some 45 ∧ Lib.hasPrefix l [45] = false ∧ Lib.trimPrefix l [45] = l) := by
  unfold Lib.trimPrefix Lib.hasPrefix
  cases l with
  | nil => right; simp
  | cons c r =>
    by_cases h : c = 45
    · subst h; left; simp
    · have h' : (45 == c) = false := by rw [beq_eq_false_iff_ne]; exact fun e => h e.symm
      right; simp [h, h', List.isPrefixOf]
theorem last_test (s : ByteArray) (n er : Int) (h : numC s.data.toList = (n, er)) : (numP s.data.toList).isSome = ((er == 0) && ((⟨(numL n).toArray⟩ : ByteArray).toList == s.toList)) := by
  have h1 := (numC_says s.data.toList).1
  rw [h] at h1
  rw [ByteArray.toList_eq, ByteArray.toList_eq]
  rw [Bool.eq_iff_iff, ← h1]
  simp
set_option maxHeartbeats 4000000 in
theorem numbered_any (s : ByteArray) (hs : s.size ≤ 1000000000) (w : World) :
    Calls Try.prog 109 #[.string s] w fun e w' => e = .returned (.tuple #[.int .i64 (numC s.data.toList).1, .bool (numP s.data.toList).isSome]) ∧ Below w.heap.size w w' := by
  have CP := CutPrefix_any s ⟨#[45]⟩
  obtain ⟨n, er, hne⟩ : ∃ n er, numC s.data.toList = (n, er) := ⟨_, _, rfl⟩
  have hlt := last_test s n er hne
  have hin : inI n := by have := numC_in s.data.toList; rw [hne] at this; exact this
  unfold inI at hin
  obtain ⟨hi1, hi2⟩ := hin
  have SN := fun w => snumber_any n hi1 hi2 w
  rw [hne, hlt]
  obtain ⟨X, hX⟩ : ∃ X : ByteArray, (⟨(numL n).toArray⟩ : ByteArray) = X := ⟨_, rfl⟩
  rw [hX] at SN
  rw [hX]
  obtain ⟨b, hb⟩ : ∃ b, (X.toList == s.toList) = b := ⟨_, rfl⟩
  rw [hb]
  obtain ⟨l, hl⟩ : ∃ l, s.data.toList = l := ⟨_, rfl⟩
  have hll : l.length ≤ 1000000000 := by rw [← hl, data_len]; exact hs
  have HLs : Hid ((⟨l.toArray⟩ : ByteArray) = s) := Lib.hid (by rw [← hl, Lib.mk_data])
  have HLd := Lib.hid hl
  rw [hl] at CP hne
  unfold numC at hne
  replace SN := Lib.hid SN
  clear hlt hX hl
  have e45 : (⟨#[45]⟩ : ByteArray).data.toList = [45] := rfl
  rw [e45] at CP
  rcases pre45 l with ⟨h1, h2, h3⟩ | ⟨h1, h2, h3⟩
  · rw [h2, h3] at CP
    rw [if_pos h1] at hne
    obtain ⟨D, hD⟩ : ∃ D, l.drop 1 = D := ⟨_, rfl⟩
    have hDl : D.length ≤ 1000000000 := by rw [← hD, List.length_drop]; omega
    rw [hD] at CP hne
    obtain ⟨Y, hY⟩ : ∃ Y : ByteArray, (⟨D.toArray⟩ : ByteArray) = Y := ⟨_, rfl⟩
    have hYd : Y.data.toList = D := by rw [← hY]
    have NU := fun w => Number_any Y (by rw [← data_len, hYd]; exact hDl) 9223372036854775807 (by omega) (by omega) w
    rw [hYd] at NU
    rw [hY] at CP
    replace CP := Lib.hid CP
    by_cases h19 : D = least19
    · rw [if_pos h19] at hne
      obtain ⟨rfl, rfl⟩ : -9223372036854775808 = n ∧ (0 : Int) = er := by simpa using hne
      have hYe : Y = ⟨#[57, 50, 50, 51, 51, 55, 50, 48, 51, 54, 56, 53, 52, 55, 55, 53, 56, 48, 56]⟩ := bytes_inj (by rw [hYd, h19]; rfl)
      subst hYe
      obtain ⟨r1, hr1⟩ : ∃ r, (numR 10 9223372036854775807 D).1 = r := ⟨_, rfl⟩
      obtain ⟨r2, hr2⟩ : ∃ r, (numR 10 9223372036854775807 D).2 = r := ⟨_, rfl⟩
      rw [hr1, hr2] at NU
      replace NU := Lib.hid NU
      clear hne h1 h2 h3 hD hDl hY hYd h19 hr1 hr2 hll e45 hi1 hi2
      go_enter Try.func109, Try.ntmps109
      go_wp2_with (first
        | (go_at_call 85; refine (CP.out _).mono ?_; rintro e w2 ⟨rfl, rfl⟩)
        | (go_at_call 118; refine (NU.out _).mono ?_; rintro e w3 ⟨rfl, hb3⟩)
        | (go_at_call 94; refine (SN.out _).mono ?_; rintro e w4 ⟨rfl, q, rfl⟩))
      go_ret2
      exact ⟨by simp, below_drewN hb3 q⟩
    · rw [if_neg h19] at hne
      have hbd := numR_bd27 9223372036854775807 (by omega) D
      obtain ⟨r1, hr1⟩ : ∃ r, (numR 10 9223372036854775807 D).1 = r := ⟨_, rfl⟩
      obtain ⟨r2, hr2⟩ : ∃ r, (numR 10 9223372036854775807 D).2 = r := ⟨_, rfl⟩
      rw [hr1, hr2] at NU hne
      rw [hr1] at hbd
      obtain ⟨rfl, rfl⟩ : -r1 = n ∧ r2 = er := by simpa using hne
      have hYne : (Y.toList == [57, 50, 50, 51, 51, 55, 50, 48, 51, 54, 56, 53, 52, 55, 55, 53, 56, 48, 56]) = false := by
        rw [beq_eq_false_iff_ne, ByteArray.toList_eq, hYd]
        exact h19
      obtain ⟨hbd1, hbd2⟩ := hbd
      have hwn : IntKind.i64.wrap (-r1) = -r1 := IntWalk.i64_in _ ⟨by omega, by omega⟩
      replace NU := Lib.hid NU
      clear hne h1 h2 h3 hD hDl hY hYd h19 hr1 hr2 hll e45 hi1 hi2
      by_cases h0 : r2 = 0
      · subst h0
        go_enter Try.func109, Try.ntmps109
        go_wp2_with (first
          | (go_at_call 85; refine (CP.out _).mono ?_; rintro e w2 ⟨rfl, rfl⟩)
          | (go_at_call 118; refine (NU.out _).mono ?_; rintro e w3 ⟨rfl, hb3⟩)
          | (go_at_call 94; refine (SN.out _).mono ?_; rintro e w4 ⟨rfl, q, rfl⟩))
        go_ret2
        exact ⟨by simp, below_drewN hb3 q⟩
      · have h0b : (r2 == 0) = false := by rw [beq_eq_false_iff_ne]; exact h0
        go_enter Try.func109, Try.ntmps109
        go_wp2_with (first
          | (go_at_call 85; refine (CP.out _).mono ?_; rintro e w2 ⟨rfl, rfl⟩)
          | (go_at_call 118; refine (NU.out _).mono ?_; rintro e w3 ⟨rfl, hb3⟩)
          | (go_at_call 94; refine (SN.out _).mono ?_; rintro e w4 ⟨rfl, q, rfl⟩))
        go_ret2
        exact ⟨by simp [h0b], hb3⟩
  · rw [h2, h3] at CP
    rw [if_neg h1] at hne
    have hls : (⟨l.toArray⟩ : ByteArray) = s := HLs.out
    rw [hls] at CP
    have NU := fun w => Number_any s hs 9223372036854775807 (by omega) (by omega) w
    rw [HLd.out] at NU
    obtain ⟨r1, hr1⟩ : ∃ r, (numR 10 9223372036854775807 l).1 = r := ⟨_, rfl⟩
    obtain ⟨r2, hr2⟩ : ∃ r, (numR 10 9223372036854775807 l).2 = r := ⟨_, rfl⟩
    rw [hr1, hr2] at NU
    obtain ⟨rfl, rfl⟩ : r1 = n ∧ r2 = er := by
      rw [← hr1, ← hr2, hne]
      exact ⟨rfl, rfl⟩
    replace NU := Lib.hid NU
    replace CP := Lib.hid CP
    clear hne h1 h2 h3 hls hr1 hr2 hll e45
    by_cases h0 : r2 = 0
    · subst h0
      go_enter Try.func109, Try.ntmps109
      go_wp2_with (first
        | (go_at_call 85; refine (CP.out _).mono ?_; rintro e w2 ⟨rfl, rfl⟩)
        | (go_at_call 118; refine (NU.out _).mono ?_; rintro e w3 ⟨rfl, hb3⟩)
        | (go_at_call 94; refine (SN.out _).mono ?_; rintro e w4 ⟨rfl, q, rfl⟩))
      go_ret2
      exact ⟨by simp, below_drewN hb3 q⟩
    · have h0b : (r2 == 0) = false := by rw [beq_eq_false_iff_ne]; exact h0
      go_enter Try.func109, Try.ntmps109
      go_wp2_with (first
        | (go_at_call 85; refine (CP.out _).mono ?_; rintro e w2 ⟨rfl, rfl⟩)
        | (go_at_call 118; refine (NU.out _).mono ?_; rintro e w3 ⟨rfl, hb3⟩)
        | (go_at_call 94; refine (SN.out _).mono ?_; rintro e w4 ⟨rfl, q, rfl⟩))
      go_ret2
      exact ⟨by simp [h0b], hb3⟩
end Go.Proofs.Ytmcioedmjcbfbaa
