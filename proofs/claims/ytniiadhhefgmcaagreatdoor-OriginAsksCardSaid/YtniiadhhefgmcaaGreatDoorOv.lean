/- Ov: several texts, one behind the other. -/
import Derived.Test.YtniiadhhefgmcaaGreatDoorKt
import Derived.Test.YtniiadhhefgmcaaGreatDoorShelf
import Derived.Test.YtniiadhhefgmcaaGreatDoorPm
import Derived.Shelf.Strings.SlTrimAscii
/- Walks of layer 1's functions on single octets and texts: what each returns. No condition but that lengths are within bounds. -/
namespace Go.Proofs.YtniiadhhefgmcaaGreatDoor
open Go.RowKit IH

theorem letter_any (c : UInt8) (w : World) :
    Calls Tryz.prog 163 #[.int .u8 c.toNat] w fun e w' => e = .returned (.bool (isLetter c)) ∧ w = w' := by
  have hc : (c.toNat : Int) ≤ 255 := by have := c.toNat_lt; omega
  go_enter Tryz.func163, Tryz.ntmps163
  go_wp2
  all_goals
    go_ret
    refine ⟨ret_bool ?_, rfl⟩
    rw [Bool.eq_iff_iff]; simp [isLetter]; omega

theorem plain_any (c : UInt8) (w : World) :
    Calls Tryz.prog 165 #[.int .u8 c.toNat] w fun e w' => e = .returned (.bool (isPlain c)) ∧ w = w' := by
  have hc : (c.toNat : Int) ≤ 255 := by have := c.toNat_lt; omega
  go_enter Tryz.func165, Tryz.ntmps165
  go_wp2
  all_goals
    go_ret
    refine ⟨ret_bool ?_, rfl⟩
    rw [Bool.eq_iff_iff]; simp [isPlain]; omega

theorem blank_any (c : UInt8) (w : World) :
    Calls Tryz.prog 117 #[.int .u8 c.toNat] w fun e w' => e = .returned (.bool (isBlank c)) ∧ w = w' := by
  have hc : (c.toNat : Int) ≤ 255 := by have := c.toNat_lt; omega
  go_enter Tryz.func117, Tryz.ntmps117
  go_wp2
  all_goals
    go_ret
    refine ⟨ret_bool ?_, rfl⟩
    rw [Bool.eq_iff_iff]; simp [isBlank]; try omega

theorem marks_ix (c : UInt8) : decide (0 ≤ Lib.indexByte marks c) = isMark c := by
  unfold isMark
  have h : ∀ l : List UInt8, decide (0 ≤ Lib.indexByte l c) = l.contains c := by
    intro l
    induction l with
    | nil => rfl
    | cons a l ih =>
      have := Lib.indexByte_ge l c
      by_cases hc : a = c
      · simp [Lib.indexByte, hc]
      · have hc' : c ≠ a := fun h => hc h.symm
        simp only [Lib.indexByte, beq_iff_eq, hc, if_false, List.contains_cons, ← ih]
        by_cases h1 : Lib.indexByte l c = -1
        · simp [h1, hc']
        · have : 0 ≤ Lib.indexByte l c := by omega
          simp [h1, this]; omega
  exact h marks

theorem tok1_any (c : UInt8) (w : World) :
    Calls Tryz.prog 162 #[.int .u8 c.toNat] w fun e w' => e = .returned (.bool (isTchar c)) ∧ w = w' := by
  have hc : (c.toNat : Int) ≤ 255 := by have := c.toNat_lt; omega
  go_enter Tryz.func162, Tryz.ntmps162
  by_cases h : isLetter c
  · go_wp2_with (go_at_call 163; refine (letter_any c _).mono ?_; rintro e w' ⟨rfl, rfl⟩)
    go_ret
    refine ⟨ret_bool ?_, rfl⟩
    simp [isTchar, h]
  · go_wp2_with (first
      | (go_at_call 163; refine (letter_any c _).mono ?_; rintro e w' ⟨rfl, rfl⟩)
      | (go_at_call 164; refine (Tryz.strings_IndexByte _ _ _).mono ?_; rintro e w' ⟨rfl, rfl⟩))
    go_ret
    refine ⟨ret_bool ?_, rfl⟩
    simp only [isTchar, h, ← marks_ix]
    simp [marks]
    rfl

theorem allTok_any (s : ByteArray) (p : UInt8 → Bool) (hp : ∀ (c : UInt8) (w : World), Calls Tryz.prog 162 #[.int .u8 c.toNat] w fun e w' => e = .returned (.bool (p c)) ∧ w = w')
    (hs : s.size ≤ 1000000000) (w : World) :
    Calls Tryz.prog 161 #[.string s, .func (.func 162) #[] #[]] w fun e w' => e = .returned (.bool (allOf p s.data.toList)) ∧ w = w' := by
  have HP := Lib.hid hp; clear hp
  go_enter Tryz.func161, Tryz.ntmps161
  go_wp2
  go_loop [8] (fun i => ∃ k : Nat, k ≤ s.size ∧ i = .int .i64 k ∧ allOf p (s.data.toList.take k) = true) (fun i => s.size - (intOf i).toNat)
  case atStart => exact ⟨0, by omega, rfl, by simp [allOf]⟩
  case round =>
    obtain ⟨k, hk, rfl, hix⟩ := hrel
    have Hix := Lib.hid hix; clear hix
    by_cases hlt : k < s.size
    · by_cases h1 : p s[k] = true
      · have H1 := Lib.hid h1; clear h1
        go_wp2_with fail
        refine (HP.out s[k] _).mono ?_
        rw [H1.out]
        rintro e w' ⟨rfl, rfl⟩
        go_wp2
        go_round
        case rel =>
          refine ⟨k + 1, by omega, by go_num, ?_⟩
          have := Hix.out
          unfold allOf at this ⊢
          rw [data_take_succ s k hlt, List.all_append, this]
          simp [H1.out]
        case measure => simp [intOf]; omega
      · have h2 : p s[k] = false := by simpa using h1
        have H2 := Lib.hid h2; clear h1 h2
        go_wp2_with fail
        refine (HP.out s[k] _).mono ?_
        rw [H2.out]
        rintro e w' ⟨rfl, rfl⟩
        go_wp2
        go_ret
        refine ⟨ret_bool ?_, rfl⟩
        unfold allOf
        rw [data_split s k hlt]
        simp [H2.out]
    · go_wp2
      go_ret
      refine ⟨ret_bool ?_, rfl⟩
      have := Hix.out
      rw [List.take_of_length_le (by rw [data_len]; omega)] at this
      rw [this]

theorem allPlain_any (s : ByteArray) (p : UInt8 → Bool) (hp : ∀ (c : UInt8) (w : World), Calls Tryz.prog 165 #[.int .u8 c.toNat] w fun e w' => e = .returned (.bool (p c)) ∧ w = w')
    (hs : s.size ≤ 1000000000) (w : World) :
    Calls Tryz.prog 161 #[.string s, .func (.func 165) #[] #[]] w fun e w' => e = .returned (.bool (allOf p s.data.toList)) ∧ w = w' := by
  have HP := Lib.hid hp; clear hp
  go_enter Tryz.func161, Tryz.ntmps161
  go_wp2
  go_loop [8] (fun i => ∃ k : Nat, k ≤ s.size ∧ i = .int .i64 k ∧ allOf p (s.data.toList.take k) = true) (fun i => s.size - (intOf i).toNat)
  case atStart => exact ⟨0, by omega, rfl, by simp [allOf]⟩
  case round =>
    obtain ⟨k, hk, rfl, hix⟩ := hrel
    have Hix := Lib.hid hix; clear hix
    by_cases hlt : k < s.size
    · by_cases h1 : p s[k] = true
      · have H1 := Lib.hid h1; clear h1
        go_wp2_with fail
        refine (HP.out s[k] _).mono ?_
        rw [H1.out]
        rintro e w' ⟨rfl, rfl⟩
        go_wp2
        go_round
        case rel =>
          refine ⟨k + 1, by omega, by go_num, ?_⟩
          have := Hix.out
          unfold allOf at this ⊢
          rw [data_take_succ s k hlt, List.all_append, this]
          simp [H1.out]
        case measure => simp [intOf]; omega
      · have h2 : p s[k] = false := by simpa using h1
        have H2 := Lib.hid h2; clear h1 h2
        go_wp2_with fail
        refine (HP.out s[k] _).mono ?_
        rw [H2.out]
        rintro e w' ⟨rfl, rfl⟩
        go_wp2
        go_ret
        refine ⟨ret_bool ?_, rfl⟩
        unfold allOf
        rw [data_split s k hlt]
        simp [H2.out]
    · go_wp2
      go_ret
      refine ⟨ret_bool ?_, rfl⟩
      have := Hix.out
      rw [List.take_of_length_le (by rw [data_len]; omega)] at this
      rw [this]

theorem Token_any (s : ByteArray) (hs : s.size ≤ 1000000000) (w : World) :
    Calls Tryz.prog 141 #[.string s] w fun e w' => e = .returned (.bool (token s.data.toList)) ∧ w = w' := by
  by_cases h : s.toList = []
  · have h' : token s.data.toList = false := by rw [ByteArray.toList_eq] at h; simp [token, h]
    rw [h']
    go_enter Tryz.func141, Tryz.ntmps141
    go_wp2
    go_ret
    exact ⟨rfl, rfl⟩
  · have h' : token s.data.toList = allOf isTchar s.data.toList := by
      rw [ByteArray.toList_eq] at h
      have : s.data.toList.isEmpty = false := by simpa using h
      unfold token; rw [this]; rfl
    have h2 : s.toList.isEmpty = false := by simpa using h
    rw [h']
    clear h h'
    go_enter Tryz.func141, Tryz.ntmps141
    go_wp2_with (go_at_call 161; refine (allTok_any s isTchar tok1_any hs _).mono ?_; rintro e w' ⟨rfl, rfl⟩)
    go_ret
    exact ⟨rfl, rfl⟩

end Go.Proofs.YtniiadhhefgmcaaGreatDoor

/- Walks of layer 1's functions on texts: trimming, tokens and values by the document's answer. No condition but that lengths are within bounds. -/
namespace Go.Proofs.YtniiadhhefgmcaaGreatDoor
open Go.RowKit IH

theorem trimS_eq (l : List UInt8) : Lib.trimS l [32, 9] = trim l := by
  have hp : (fun x : UInt8 => [32, 9].contains x) = isBlank := by
    funext c
    rw [Bool.eq_iff_iff]
    simp [isBlank, ← UInt8.toNat_inj]
  unfold Lib.trimS Lib.trimLeftS Lib.trimRightS trim trimR trimL
  rw [hp]

theorem Trim_any (s : ByteArray) (hs : s.size ≤ 1000000000) (w : World) :
    Calls Tryz.prog 123 #[.string s] w fun e w' => e = .returned (.string ⟨(trim s.data.toList).toArray⟩) ∧ Below w.heap.size w w' := by
  have c := Any.strings_Trim_laid Tryz.lays160 (by kernel_rfl) s ⟨#[32, 9]⟩ w (by omega) (by decide) (ascii_of_all (by decide))
  simp only [trimS_eq] at c
  have C := Lib.hid c; clear c
  go_enter Tryz.func123, Tryz.ntmps123
  go_wp2_with (go_at_call 140; refine C.out.mono ?_; rintro e w' ⟨rfl, hb⟩)
  go_ret
  exact ⟨rfl, hb⟩

def strSize : Value → Nat
  | .string t => t.size
  | _ => 0

theorem refTrim_2 (s : ByteArray) (hs : s.size ≤ 1000000000) (w : World) :
    Calls Tryz.prog 102 #[.string s] w fun e w' => e = .returned (.string ⟨(trim s.data.toList).toArray⟩) ∧ w = w' := by
  go_enter Tryz.func102, Tryz.ntmps102
  go_wp2
  go_loop [0] (fun x => ∃ t : ByteArray, x = .string t ∧ t.size ≤ s.size ∧ trimL t.data.toList = trimL s.data.toList) (fun x => strSize x)
  case atStart => exact ⟨s, rfl, by omega, rfl⟩
  case round =>
    obtain ⟨t, rfl, ht, hix⟩ := hrel
    have Hix := Lib.hid hix; clear hix
    by_cases hlt : 0 < t.size
    · by_cases h1 : isBlank t[0] = true
      · have H1 := Lib.hid h1; clear h1
        go_wp2_with (go_at_call 117; refine (blank_any t[0] _).mono ?_; rw [H1.out]; rintro e w' ⟨rfl, rfl⟩)
        go_round
        case rel =>
          refine ⟨_, rfl, by simp; omega, ?_⟩
          rw [drop_data, ← Hix.out]
          conv => rhs; rw [show t.data.toList = t.data.toList.drop 0 from rfl, data_drop t 0 hlt]
          rw [trimL_blank H1.out]
        case measure => simp [strSize]; omega
      · have h2 : isBlank t[0] = false := by simpa using h1
        have H2 := Lib.hid h2; clear h1 h2
        go_wp2_with (go_at_call 117; refine (blank_any t[0] _).mono ?_; rw [H2.out]; rintro e w' ⟨rfl, rfl⟩)
        have e1 : trimR t.data.toList = trim s.data.toList := by
          have := Hix.out
          rw [show t.data.toList = t.data.toList.drop 0 from rfl, data_drop t 0 hlt, trimL_head H2.out, ← data_drop t 0 hlt] at this
          rw [show t.data.toList = t.data.toList.drop 0 from rfl, this, trim, trim_comm]
        have E1 := Lib.hid e1; clear e1 Hix
        go_loop [0] (fun x => ∃ u : ByteArray, x = .string u ∧ u.size ≤ s.size ∧ trimR u.data.toList = trim s.data.toList) (fun x => strSize x)
        case atStart => exact ⟨t, rfl, ht, E1.out⟩
        case round =>
          clear E1
          obtain ⟨u, rfl, hu, hix⟩ := hrel
          have Hix := Lib.hid hix; clear hix
          by_cases hlu : 0 < u.size
          · have eu : u.data.toList = u.data.toList.take (u.size - 1) ++ [u[u.size - 1]] := by
              have := data_split u (u.size - 1) (by omega)
              rw [List.drop_eq_nil_of_le (by rw [data_len]; omega)] at this
              exact this
            have EU := Lib.hid eu; clear eu
            by_cases h1 : isBlank u[u.size - 1] = true
            · have H1 := Lib.hid h1; clear h1
              go_wp2_with (go_at_call 117; refine (blank_any u[u.size - 1] _).mono ?_; rw [H1.out]; rintro e w' ⟨rfl, rfl⟩)
              go_round
              case rel =>
                refine ⟨_, rfl, by simp; omega, ?_⟩
                rw [take_data _ _ (by omega), ← Hix.out]
                conv => rhs; rw [EU.out]
                rw [trimR_blank H1.out]
              case measure => simp [strSize]; omega
            · have h2 : isBlank u[u.size - 1] = false := by simpa using h1
              have H2 := Lib.hid h2; clear h1 h2
              go_wp2_with (go_at_call 117; refine (blank_any u[u.size - 1] _).mono ?_; rw [H2.out]; rintro e w' ⟨rfl, rfl⟩)
              go_ret
              refine ⟨ret_str (bytes_eq ?_), rfl⟩
              rw [← Hix.out]
              conv => rhs; rw [EU.out, trimR_last H2.out, ← EU.out]
          · go_wp2
            go_ret
            refine ⟨ret_str (bytes_eq ?_), rfl⟩
            rw [← Hix.out]
            have e0 : u.data.toList = [] := List.eq_nil_of_length_eq_zero (by rw [data_len]; omega)
            rw [e0]; rfl
    · go_wp2
      have e0 : t.data.toList = [] := List.eq_nil_of_length_eq_zero (by rw [data_len]; omega)
      have e1 : trimR t.data.toList = trim s.data.toList := by
        have := Hix.out
        rw [e0, trimL_nil] at this
        rw [e0, trim, ← trim_comm, ← this]
      have E1 := Lib.hid e1; clear e1 Hix
      go_loop [0] (fun x => ∃ u : ByteArray, x = .string u ∧ u.size ≤ s.size ∧ trimR u.data.toList = trim s.data.toList) (fun x => strSize x)
      case atStart => exact ⟨t, rfl, ht, E1.out⟩
      case round =>
        clear E1
        obtain ⟨u, rfl, hu, hix⟩ := hrel
        have Hix := Lib.hid hix; clear hix
        by_cases hlu : 0 < u.size
        · have eu : u.data.toList = u.data.toList.take (u.size - 1) ++ [u[u.size - 1]] := by
            have := data_split u (u.size - 1) (by omega)
            rw [List.drop_eq_nil_of_le (by rw [data_len]; omega)] at this
            exact this
          have EU := Lib.hid eu; clear eu
          by_cases h1 : isBlank u[u.size - 1] = true
          · have H1 := Lib.hid h1; clear h1
            go_wp2_with (go_at_call 117; refine (blank_any u[u.size - 1] _).mono ?_; rw [H1.out]; rintro e w' ⟨rfl, rfl⟩)
            go_round
            case rel =>
              refine ⟨_, rfl, by simp; omega, ?_⟩
              rw [take_data _ _ (by omega), ← Hix.out]
              conv => rhs; rw [EU.out]
              rw [trimR_blank H1.out]
            case measure => simp [strSize]; omega
          · have h2 : isBlank u[u.size - 1] = false := by simpa using h1
            have H2 := Lib.hid h2; clear h1 h2
            go_wp2_with (go_at_call 117; refine (blank_any u[u.size - 1] _).mono ?_; rw [H2.out]; rintro e w' ⟨rfl, rfl⟩)
            go_ret
            refine ⟨ret_str (bytes_eq ?_), rfl⟩
            rw [← Hix.out]
            conv => rhs; rw [EU.out, trimR_last H2.out, ← EU.out]
        · go_wp2
          go_ret
          refine ⟨ret_str (bytes_eq ?_), rfl⟩
          rw [← Hix.out]
          have e0 : u.data.toList = [] := List.eq_nil_of_length_eq_zero (by rw [data_len]; omega)
          rw [e0]; rfl
end Go.Proofs.YtniiadhhefgmcaaGreatDoor

/- Walks of layer 1: tokens and values by the document's answer. No condition but that lengths are within bounds. -/
namespace Go.Proofs.YtniiadhhefgmcaaGreatDoor
open Go.RowKit IH

end Go.Proofs.YtniiadhhefgmcaaGreatDoor

/- Walks of layer 1: values and tokens, by the code's way and the document's. No condition but that lengths are within bounds. -/
namespace Go.Proofs.YtniiadhhefgmcaaGreatDoor
open Go.RowKit IH
set_option maxRecDepth 100000

theorem Value_any (s : ByteArray) (hs : s.size ≤ 1000000000) (w : World) :
    Calls Tryz.prog 143 #[.string s] w fun e w' => e = .returned (.bool (value s.data.toList)) ∧ Below w.heap.size w w' := by
  have AP := Lib.hid (allPlain_any s isPlain plain_any hs)
  by_cases hp : allOf isPlain s.data.toList = true
  · obtain ⟨X, hX⟩ : ∃ X, X = (⟨(trim s.data.toList).toArray⟩ : ByteArray) := ⟨_, rfl⟩
    have T := Lib.hid (Trim_any s hs)
    rw [← hX] at T
    rw [hp] at AP
    by_cases he : trim s.data.toList = s.data.toList
    · have e1 : value s.data.toList = true := by simp [value, hp, he]
      have e2 : X = s := by rw [hX, he, Lib.mk_data]
      subst e2
      rw [e1]
      clear e1 he hX hp
      go_enter Tryz.func143, Tryz.ntmps143
      go_wp2_with (first
        | (go_at_call 161; refine (AP.out _).mono ?_; rintro e w2 ⟨rfl, rfl⟩)
        | (go_at_call 123; refine (T.out _).mono ?_; rintro e w2 ⟨rfl, hb⟩))
      go_ret
      exact ⟨rfl, hb⟩
    · have e1 : value s.data.toList = false := by simp [value, he]
      have e2 : (X.toList == s.toList) = false := by
        rw [ByteArray.toList_eq, ByteArray.toList_eq, hX, beq_eq_false_iff_ne]
        exact he
      rw [e1]
      clear e1 he hX hp
      go_enter Tryz.func143, Tryz.ntmps143
      go_wp2_with (first
        | (go_at_call 161; refine (AP.out _).mono ?_; rintro e w2 ⟨rfl, rfl⟩)
        | (go_at_call 123; refine (T.out _).mono ?_; rintro e w2 ⟨rfl, hb⟩))
      go_ret
      exact ⟨rfl, hb⟩
  · have hp' : allOf isPlain s.data.toList = false := by simpa using hp
    have e1 : value s.data.toList = false := by simp [value, hp']
    rw [hp'] at AP
    rw [e1]
    clear e1 hp hp'
    go_enter Tryz.func143, Tryz.ntmps143
    go_wp2_with (go_at_call 161; refine (AP.out _).mono ?_; rintro e w2 ⟨rfl, rfl⟩)
    go_ret
    exact ⟨rfl, Below.refl _ _⟩

end Go.Proofs.YtniiadhhefgmcaaGreatDoor

