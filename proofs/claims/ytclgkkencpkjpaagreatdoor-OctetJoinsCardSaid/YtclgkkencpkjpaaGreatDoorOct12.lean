/- Walks of layer 1: values and tokens, by the code's way and the document's. No condition but that lengths are within bounds. -/
import Derived.Test.YtclgkkencpkjpaaGreatDoorOct2
import Derived.Test.YtclgkkencpkjpaaGreatDoorOct3
import Derived.Test.YtclgkkencpkjpaaGreatDoorKt
namespace Go.Proofs.YtclgkkencpkjpaaGreatDoor
open Go.RowKit IH
set_option maxRecDepth 100000

theorem Value_any (s : ByteArray) (hs : s.size ≤ 1000000000) (w : World) :
    Calls Tryz.prog 223 #[.string s] w fun e w' => e = .returned (.bool (value s.data.toList)) ∧ Below w.heap.size w w' := by
  have AP := Lib.hid (allPlain_any s isPlain plain_any hs)
  by_cases hp : allOf isPlain s.data.toList = true
  · obtain ⟨X, hX⟩ : ∃ X, X = (⟨(trim s.data.toList).toArray⟩ : ByteArray) := ⟨_, rfl⟩
    have T := Lib.hid (Trim_any s hs)
    rw [← hX] at T
    rw [hp] at AP
    by_cases he : trim s.data.toList = s.data.toList
    · have e1 : value s.data.toList = true := by simp [value, hp, he]
      have e2 : X = s := by rw [hX, he, Lib.mk_data]
      subst e2
      rw [e1]
      clear e1 he hX hp
      go_enter Tryz.func223, Tryz.ntmps223
      go_wp2_with (first
        | (go_at_call 57; refine (AP.out _).mono ?_; rintro e w2 ⟨rfl, rfl⟩)
        | (go_at_call 67; refine (T.out _).mono ?_; rintro e w2 ⟨rfl, hb⟩))
      go_ret
      exact ⟨rfl, hb⟩
    · have e1 : value s.data.toList = false := by simp [value, he]
      have e2 : (X.toList == s.toList) = false := by
        rw [ByteArray.toList_eq, ByteArray.toList_eq, hX, beq_eq_false_iff_ne]
        exact he
      rw [e1]
      clear e1 he hX hp
      go_enter Tryz.func223, Tryz.ntmps223
      go_wp2_with (first
        | (go_at_call 57; refine (AP.out _).mono ?_; rintro e w2 ⟨rfl, rfl⟩)
        | (go_at_call 67; refine (T.out _).mono ?_; rintro e w2 ⟨rfl, hb⟩))
      go_ret
      exact ⟨rfl, hb⟩
  · have hp' : allOf isPlain s.data.toList = false := by simpa using hp
    have e1 : value s.data.toList = false := by simp [value, hp']
    rw [hp'] at AP
    rw [e1]
    clear e1 hp hp'
    go_enter Tryz.func223, Tryz.ntmps223
    go_wp2_with (go_at_call 57; refine (AP.out _).mono ?_; rintro e w2 ⟨rfl, rfl⟩)
    go_ret
    exact ⟨rfl, Below.refl _ _⟩

theorem refToken_any (s : ByteArray) (hs : s.size ≤ 1000000000) (w : World) :
    Calls Tryz.prog 18 #[.string s] w fun e w' => e = .returned (.bool (token s.data.toList)) ∧ Below w.heap.size w w' := by
  go_enter Tryz.func18, Tryz.ntmps18
  go_wp2
  go_loopw [3] (fun i wr => ∃ k : Nat, k ≤ s.size ∧ i = .int .i64 k ∧ allOf isTchar (s.data.toList.take k) = true ∧ Below w.heap.size w wr) (fun i _ => s.size - (intOf i).toNat)
  case atStart => exact ⟨0, by omega, rfl, by simp [allOf], Below.refl _ _⟩
  case round =>
    obtain ⟨k, hk, rfl, hix, hbel⟩ := hrel
    have Hix := Lib.hid hix; clear hix
    by_cases hlt : k < s.size
    · obtain ⟨c, hc⟩ : ∃ c, s[k] = c := ⟨_, rfl⟩
      have T := Lib.hid (refTchar_any c)
      by_cases h1 : isTchar c = true
      · have hnx : allOf isTchar (s.data.toList.take (k + 1)) = true := by
          have := Hix.out
          unfold allOf at this ⊢
          rw [data_take_succ s k hlt, List.all_append, this, hc]
          simp [h1]
        have Hnx := Lib.hid hnx
        rw [h1] at T
        clear hnx h1
        go_wp2_with (go_at_call 65; refine (T.out _).mono ?_; rintro e w2 ⟨rfl, hb⟩)
        go_roundw
        case rel => exact ⟨k + 1, by omega, by go_num, Hnx.out, hbel.trans (hb.mono hbel.size)⟩
        case measure => simp [intOf]; omega
      · have h2 : isTchar c = false := by simpa using h1
        have hfin : token s.data.toList = false := by
          unfold token allOf
          rw [data_split s k hlt, hc]
          simp [h2]
        have Hfin := Lib.hid hfin
        rw [h2] at T
        clear hfin h1 h2
        go_wp2_with (go_at_call 65; refine (T.out _).mono ?_; rintro e w2 ⟨rfl, hb⟩)
        go_ret
        rw [Hfin.out]
        exact ⟨rfl, hbel.trans (hb.mono hbel.size)⟩
    · have h1 := Hix.out
      rw [List.take_of_length_le (by rw [data_len]; omega)] at h1
      by_cases h0 : 0 < s.size
      · have hfin : token s.data.toList = true := by
          have : s.data.toList.isEmpty = false := by
            rw [List.isEmpty_eq_false_iff]
            exact fun h => by rw [← data_len, h] at h0; simp at h0
          unfold token; rw [this, h1]; rfl
        have Hfin := Lib.hid hfin
        clear hfin h1
        go_wp2
        go_ret
        rw [Hfin.out]
        exact ⟨rfl, hbel⟩
      · have hfin : token s.data.toList = false := by
          have : s.data.toList = [] := List.eq_nil_of_length_eq_zero (by rw [data_len]; omega)
          rw [this]; rfl
        have Hfin := Lib.hid hfin
        clear hfin h1
        go_wp2
        go_ret
        rw [Hfin.out]
        exact ⟨rfl, hbel⟩

theorem refValue_any (s : ByteArray) (hs : s.size ≤ 1000000000) (w : World) :
    Calls Tryz.prog 136 #[.string s] w fun e w' => e = .returned (.bool (value s.data.toList)) ∧ w = w' := by
  go_enter Tryz.func136, Tryz.ntmps136
  go_wp2
  go_loop [3] (fun i => ∃ k : Nat, k ≤ s.size ∧ i = .int .i64 k ∧ allOf isPlain (s.data.toList.take k) = true) (fun i => s.size - (intOf i).toNat)
  case atStart => exact ⟨0, by omega, rfl, by simp [allOf]⟩
  case round =>
    obtain ⟨k, hk, rfl, hix⟩ := hrel
    have Hix := Lib.hid hix; clear hix
    by_cases hlt : k < s.size
    · obtain ⟨c, hc⟩ : ∃ c, s[k] = c := ⟨_, rfl⟩
      have T := Lib.hid (Plain_any c)
      by_cases h1 : isPlain c = true
      · have hnx : allOf isPlain (s.data.toList.take (k + 1)) = true := by
          have := Hix.out
          unfold allOf at this ⊢
          rw [data_take_succ s k hlt, List.all_append, this, hc]
          simp [h1]
        have Hnx := Lib.hid hnx
        rw [h1] at T
        clear hnx h1
        go_wp2_with (go_at_call 61; refine (T.out _).mono ?_; rintro e w2 ⟨rfl, rfl⟩)
        go_round
        case rel => exact ⟨k + 1, by omega, by go_num, Hnx.out⟩
        case measure => simp [intOf]; omega
      · have h2 : isPlain c = false := by simpa using h1
        have hfin : value s.data.toList = false := by
          unfold value allOf
          rw [data_split s k hlt, hc]
          simp [h2]
        have Hfin := Lib.hid hfin
        rw [h2] at T
        clear hfin h1 h2
        go_wp2_with (go_at_call 61; refine (T.out _).mono ?_; rintro e w2 ⟨rfl, rfl⟩)
        go_ret
        rw [Hfin.out]
        exact ⟨rfl, rfl⟩
    · have h1 := Hix.out
      rw [List.take_of_length_le (by rw [data_len]; omega)] at h1
      by_cases h0 : 0 < s.size
      · obtain ⟨a, ha⟩ : ∃ a, s[0] = a := ⟨_, rfl⟩
        obtain ⟨b, hb⟩ : ∃ b, s[s.size - 1] = b := ⟨_, rfl⟩
        have ga : s.data.toList.head? = some a := by rw [← ha, List.head?_eq_getElem?]; exact get_data s 0 h0
        have gb : s.data.toList.getLast? = some b := by rw [← hb, List.getLast?_eq_getElem?, data_len]; exact get_data s (s.size - 1) (by omega)
        have TA := Lib.hid (blank_any a)
        have TB := Lib.hid (blank_any b)
        have hz : ((s.size : Int) == 0) = false := by rw [beq_eq_false_iff_ne]; omega
        have hv : value s.data.toList = (!isBlank a && !isBlank b) := by
          unfold value
          rw [h1, Bool.true_and, Bool.eq_iff_iff, beq_iff_eq, trim_self]
          rw [ga, gb]
          simp
        have Hv := Lib.hid hv
        clear hv ga gb h1
        generalize isBlank a = x at *
        generalize isBlank b = y at *
        cases x
        · go_wp2_with (first
            | (go_at_call 180; (with_reducible refine (TA.out _).mono ?_); rintro e w2 ⟨rfl, rfl⟩)
            | (go_at_call 180; (with_reducible refine (TB.out _).mono ?_); rintro e w2 ⟨rfl, rfl⟩))
          go_ret
          rw [Hv.out]
          exact ⟨rfl, rfl⟩
        · go_wp2_with (first
            | (go_at_call 180; (with_reducible refine (TA.out _).mono ?_); rintro e w2 ⟨rfl, rfl⟩)
            | (go_at_call 180; (with_reducible refine (TB.out _).mono ?_); rintro e w2 ⟨rfl, rfl⟩))
          go_ret
          rw [Hv.out]
          exact ⟨rfl, rfl⟩
      · have hz : ((s.size : Int) == 0) = true := by rw [beq_iff_eq]; omega
        have hfin : value s.data.toList = true := by
          have : s.data.toList = [] := List.eq_nil_of_length_eq_zero (by rw [data_len]; omega)
          rw [this]; rfl
        have Hfin := Lib.hid hfin
        clear hfin h1
        go_wp2
        go_ret
        rw [Hfin.out]
        exact ⟨rfl, rfl⟩
end Go.Proofs.YtclgkkencpkjpaaGreatDoor
