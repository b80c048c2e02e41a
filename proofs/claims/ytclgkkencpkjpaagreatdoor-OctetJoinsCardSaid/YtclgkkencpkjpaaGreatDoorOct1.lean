/- Walks of layer 1's functions on single octets and texts: what each returns. No condition but that lengths are within bounds. -/
import Derived.Test.YtclgkkencpkjpaaGreatDoorKt
import Derived.Test.YtclgkkencpkjpaaGreatDoorShelf
import Derived.Test.YtclgkkencpkjpaaGreatDoorPm
namespace Go.Proofs.YtclgkkencpkjpaaGreatDoor
open Go.RowKit IH

theorem letter_any (c : UInt8) (w : World) :
    Calls Tryz.prog 245 #[.int .u8 c.toNat] w fun e w' => e = .returned (.bool (isLetter c)) ∧ w = w' := by
  have hc : (c.toNat : Int) ≤ 255 := by have := c.toNat_lt; omega
  go_enter Tryz.func245, Tryz.ntmps245
  go_wp2
  all_goals
    go_ret
    refine ⟨ret_bool ?_, rfl⟩
    rw [Bool.eq_iff_iff]; simp [isLetter]; omega

theorem plain_any (c : UInt8) (w : World) :
    Calls Tryz.prog 58 #[.int .u8 c.toNat] w fun e w' => e = .returned (.bool (isPlain c)) ∧ w = w' := by
  have hc : (c.toNat : Int) ≤ 255 := by have := c.toNat_lt; omega
  go_enter Tryz.func58, Tryz.ntmps58
  go_wp2
  all_goals
    go_ret
    refine ⟨ret_bool ?_, rfl⟩
    rw [Bool.eq_iff_iff]; simp [isPlain]; omega

theorem Plain_any (c : UInt8) (w : World) :
    Calls Tryz.prog 61 #[.int .u8 c.toNat] w fun e w' => e = .returned (.bool (isPlain c)) ∧ w = w' := by
  have hc : (c.toNat : Int) ≤ 255 := by have := c.toNat_lt; omega
  go_enter Tryz.func61, Tryz.ntmps61
  go_wp2
  all_goals
    go_ret
    refine ⟨ret_bool ?_, rfl⟩
    rw [Bool.eq_iff_iff]; simp [isPlain]; omega

theorem blank_any (c : UInt8) (w : World) :
    Calls Tryz.prog 180 #[.int .u8 c.toNat] w fun e w' => e = .returned (.bool (isBlank c)) ∧ w = w' := by
  have hc : (c.toNat : Int) ≤ 255 := by have := c.toNat_lt; omega
  go_enter Tryz.func180, Tryz.ntmps180
  go_wp2
  all_goals
    go_ret
    refine ⟨ret_bool ?_, rfl⟩
    rw [Bool.eq_iff_iff]; simp [isBlank]; try omega

theorem marks_ix (c : UInt8) : decide (0 ≤ Lib.indexByte marks c) = isMark c := by
  unfold isMark
  have h : ∀ l : List UInt8, decide (0 ≤ Lib.indexByte l c) = l.contains c := by
    intro l
    induction l with
    | nil => rfl
    | cons a l ih =>
      have := Lib.indexByte_ge l c
      by_cases hc : a = c
      · simp [Lib.indexByte, hc]
      · have hc' : c ≠ a := fun h => hc h.symm
        simp only [Lib.indexByte, beq_iff_eq, hc, if_false, List.contains_cons, ← ih]
        by_cases h1 : Lib.indexByte l c = -1
        · simp [h1, hc']
        · have : 0 ≤ Lib.indexByte l c := by omega
          simp [h1, this]; omega
  exact h marks

theorem tok1_any (c : UInt8) (w : World) :
    Calls Tryz.prog 244 #[.int .u8 c.toNat] w fun e w' => e = .returned (.bool (isTchar c)) ∧ w = w' := by
  have hc : (c.toNat : Int) ≤ 255 := by have := c.toNat_lt; omega
  go_enter Tryz.func244, Tryz.ntmps244
  by_cases h : isLetter c
  · go_wp2_with (go_at_call 245; refine (letter_any c _).mono ?_; rintro e w' ⟨rfl, rfl⟩)
    go_ret
    refine ⟨ret_bool ?_, rfl⟩
    simp [isTchar, h]
  · go_wp2_with (first
      | (go_at_call 245; refine (letter_any c _).mono ?_; rintro e w' ⟨rfl, rfl⟩)
      | (go_at_call 156; refine (Tryz.strings_IndexByte _ _ _).mono ?_; rintro e w' ⟨rfl, rfl⟩))
    go_ret
    refine ⟨ret_bool ?_, rfl⟩
    simp only [isTchar, h, ← marks_ix]
    simp [marks]
    rfl

theorem allTok_any (s : ByteArray) (p : UInt8 → Bool) (hp : ∀ (c : UInt8) (w : World), Calls Tryz.prog 244 #[.int .u8 c.toNat] w fun e w' => e = .returned (.bool (p c)) ∧ w = w')
    (hs : s.size ≤ 1000000000) (w : World) :
    Calls Tryz.prog 57 #[.string s, .func (.func 244) #[] #[]] w fun e w' => e = .returned (.bool (allOf p s.data.toList)) ∧ w = w' := by
  have HP := Lib.hid hp; clear hp
  go_enter Tryz.func57, Tryz.ntmps57
  go_wp2
  go_loop [8] (fun i => ∃ k : Nat, k ≤ s.size ∧ i = .int .i64 k ∧ allOf p (s.data.toList.take k) = true) (fun i => s.size - (intOf i).toNat)
  case atStart => exact ⟨0, by omega, rfl, by simp [allOf]⟩
  case round =>
    obtain ⟨k, hk, rfl, hix⟩ := hrel
    have Hix := Lib.hid hix; clear hix
    by_cases hlt : k < s.size
    · by_cases h1 : p s[k] = true
      · have H1 := Lib.hid h1; clear h1
        go_wp2_with fail
        refine (HP.out s[k] _).mono ?_
        rw [H1.out]
        rintro e w' ⟨rfl, rfl⟩
        go_wp2
        go_round
        case rel =>
          refine ⟨k + 1, by omega, by go_num, ?_⟩
          have := Hix.out
          unfold allOf at this ⊢
          rw [data_take_succ s k hlt, List.all_append, this]
          simp [H1.out]
        case measure => simp [intOf]; omega
      · have h2 : p s[k] = false := by simpa using h1
        have H2 := Lib.hid h2; clear h1 h2
        go_wp2_with fail
        refine (HP.out s[k] _).mono ?_
        rw [H2.out]
        rintro e w' ⟨rfl, rfl⟩
        go_wp2
        go_ret
        refine ⟨ret_bool ?_, rfl⟩
        unfold allOf
        rw [data_split s k hlt]
        simp [H2.out]
    · go_wp2
      go_ret
      refine ⟨ret_bool ?_, rfl⟩
      have := Hix.out
      rw [List.take_of_length_le (by rw [data_len]; omega)] at this
      rw [this]

theorem allPlain_any (s : ByteArray) (p : UInt8 → Bool) (hp : ∀ (c : UInt8) (w : World), Calls Tryz.prog 58 #[.int .u8 c.toNat] w fun e w' => e = .returned (.bool (p c)) ∧ w = w')
    (hs : s.size ≤ 1000000000) (w : World) :
    Calls Tryz.prog 57 #[.string s, .func (.func 58) #[] #[]] w fun e w' => e = .returned (.bool (allOf p s.data.toList)) ∧ w = w' := by
  have HP := Lib.hid hp; clear hp
  go_enter Tryz.func57, Tryz.ntmps57
  go_wp2
  go_loop [8] (fun i => ∃ k : Nat, k ≤ s.size ∧ i = .int .i64 k ∧ allOf p (s.data.toList.take k) = true) (fun i => s.size - (intOf i).toNat)
  case atStart => exact ⟨0, by omega, rfl, by simp [allOf]⟩
  case round =>
    obtain ⟨k, hk, rfl, hix⟩ := hrel
    have Hix := Lib.hid hix; clear hix
    by_cases hlt : k < s.size
    · by_cases h1 : p s[k] = true
      · have H1 := Lib.hid h1; clear h1
        go_wp2_with fail
        refine (HP.out s[k] _).mono ?_
        rw [H1.out]
        rintro e w' ⟨rfl, rfl⟩
        go_wp2
        go_round
        case rel =>
          refine ⟨k + 1, by omega, by go_num, ?_⟩
          have := Hix.out
          unfold allOf at this ⊢
          rw [data_take_succ s k hlt, List.all_append, this]
          simp [H1.out]
        case measure => simp [intOf]; omega
      · have h2 : p s[k] = false := by simpa using h1
        have H2 := Lib.hid h2; clear h1 h2
        go_wp2_with fail
        refine (HP.out s[k] _).mono ?_
        rw [H2.out]
        rintro e w' ⟨rfl, rfl⟩
        go_wp2
        go_ret
        refine ⟨ret_bool ?_, rfl⟩
        unfold allOf
        rw [data_split s k hlt]
        simp [H2.out]
    · go_wp2
      go_ret
      refine ⟨ret_bool ?_, rfl⟩
      have := Hix.out
      rw [List.take_of_length_le (by rw [data_len]; omega)] at this
      rw [this]

theorem Token_any (s : ByteArray) (hs : s.size ≤ 1000000000) (w : World) :
    Calls Tryz.prog 221 #[.string s] w fun e w' => e = .returned (.bool (token s.data.toList)) ∧ w = w' := by
  by_cases h : s.toList = []
  · have h' : token s.data.toList = false := by rw [ByteArray.toList_eq] at h; simp [token, h]
    rw [h']
    go_enter Tryz.func221, Tryz.ntmps221
    go_wp2
    go_ret
    exact ⟨rfl, rfl⟩
  · have h' : token s.data.toList = allOf isTchar s.data.toList := by
      rw [ByteArray.toList_eq] at h
      have : s.data.toList.isEmpty = false := by simpa using h
      unfold token; rw [this]; rfl
    have h2 : s.toList.isEmpty = false := by simpa using h
    rw [h']
    clear h h'
    go_enter Tryz.func221, Tryz.ntmps221
    go_wp2_with (go_at_call 57; refine (allTok_any s isTchar tok1_any hs _).mono ?_; rintro e w' ⟨rfl, rfl⟩)
    go_ret
    exact ⟨rfl, rfl⟩

end Go.Proofs.YtclgkkencpkjpaaGreatDoor
