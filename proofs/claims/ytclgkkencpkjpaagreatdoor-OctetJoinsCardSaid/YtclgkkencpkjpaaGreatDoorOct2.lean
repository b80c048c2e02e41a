/- Walks of layer 1's functions on texts: trimming, tokens and values by the document's answer. No condition but that lengths are within bounds. -/
import Derived.Test.YtclgkkencpkjpaaGreatDoorOct1
import Derived.Shelf.Strings.SlTrimAscii
namespace Go.Proofs.YtclgkkencpkjpaaGreatDoor
open Go.RowKit IH

theorem trimS_eq (l : List UInt8) : Lib.trimS l [32, 9] = trim l := by
  have hp : (fun x : UInt8 => [32, 9].contains x) = isBlank := by
    funext c
    rw [Bool.eq_iff_iff]
    simp [isBlank, ← UInt8.toNat_inj]
  unfold Lib.trimS Lib.trimLeftS Lib.trimRightS trim trimR trimL
  rw [hp]

theorem Trim_any (s : ByteArray) (hs : s.size ≤ 1000000000) (w : World) :
    Calls Tryz.prog 67 #[.string s] w fun e w' => e = .returned (.string ⟨(trim s.data.toList).toArray⟩) ∧ Below w.heap.size w w' := by
  have c := Any.strings_Trim_laid Tryz.lays160 (by kernel_rfl) s ⟨#[32, 9]⟩ w (by omega) (by decide) (ascii_of_all (by decide))
  simp only [trimS_eq] at c
  have C := Lib.hid c; clear c
  go_enter Tryz.func67, Tryz.ntmps67
  go_wp2_with (go_at_call 119; refine C.out.mono ?_; rintro e w' ⟨rfl, hb⟩)
  go_ret
  exact ⟨rfl, hb⟩

def strSize : Value → Nat
  | .string t => t.size
  | _ => 0

theorem refTrim_2 (s : ByteArray) (hs : s.size ≤ 1000000000) (w : World) :
    Calls Tryz.prog 153 #[.string s] w fun e w' => e = .returned (.string ⟨(trim s.data.toList).toArray⟩) ∧ w = w' := by
  go_enter Tryz.func153, Tryz.ntmps153
  go_wp2
  go_loop [0] (fun x => ∃ t : ByteArray, x = .string t ∧ t.size ≤ s.size ∧ trimL t.data.toList = trimL s.data.toList) (fun x => strSize x)
  case atStart => exact ⟨s, rfl, by omega, rfl⟩
  case round =>
    obtain ⟨t, rfl, ht, hix⟩ := hrel
    have Hix := Lib.hid hix; clear hix
    by_cases hlt : 0 < t.size
    · by_cases h1 : isBlank t[0] = true
      · have H1 := Lib.hid h1; clear h1
        go_wp2_with (go_at_call 180; refine (blank_any t[0] _).mono ?_; rw [H1.out]; rintro e w' ⟨rfl, rfl⟩)
        go_round
        case rel =>
          refine ⟨_, rfl, by simp; omega, ?_⟩
          rw [drop_data, ← Hix.out]
          conv => rhs; rw [show t.data.toList = t.data.toList.drop 0 from rfl, data_drop t 0 hlt]
          rw [trimL_blank H1.out]
        case measure => simp [strSize]; omega
      · have h2 : isBlank t[0] = false := by simpa using h1
        have H2 := Lib.hid h2; clear h1 h2
        go_wp2_with (go_at_call 180; refine (blank_any t[0] _).mono ?_; rw [H2.out]; rintro e w' ⟨rfl, rfl⟩)
        have e1 : trimR t.data.toList = trim s.data.toList := by
          have := Hix.out
          rw [show t.data.toList = t.data.toList.drop 0 from rfl, data_drop t 0 hlt, trimL_head H2.out, ← data_drop t 0 hlt] at this
          rw [show t.data.toList = t.data.toList.drop 0 from rfl, this, trim, trim_comm]
        have E1 := Lib.hid e1; clear e1 Hix
        go_loop [0] (fun x => ∃ u : ByteArray, x = .string u ∧ u.size ≤ s.size ∧ trimR u.data.toList = trim s.data.toList) (fun x => strSize x)
        case atStart => exact ⟨t, rfl, ht, E1.out⟩
        case round =>
          clear E1
          obtain ⟨u, rfl, hu, hix⟩ := hrel
          have Hix := Lib.hid hix; clear hix
          by_cases hlu : 0 < u.size
          · have eu : u.data.toList = u.data.toList.take (u.size - 1) ++ [u[u.size - 1]] := by
              have := data_split u (u.size - 1) (by omega)
              rw [List.drop_eq_nil_of_le (by rw [data_len]; omega)] at this
              exact this
            have EU := Lib.hid eu; clear eu
            by_cases h1 : isBlank u[u.size - 1] = true
            · have H1 := Lib.hid h1; clear h1
              go_wp2_with (go_at_call 180; refine (blank_any u[u.size - 1] _).mono ?_; rw [H1.out]; rintro e w' ⟨rfl, rfl⟩)
              go_round
              case rel =>
                refine ⟨_, rfl, by simp; omega, ?_⟩
                rw [take_data _ _ (by omega), ← Hix.out]
                conv => rhs; rw [EU.out]
                rw [trimR_blank H1.out]
              case measure => simp [strSize]; omega
            · have h2 : isBlank u[u.size - 1] = false := by simpa using h1
              have H2 := Lib.hid h2; clear h1 h2
              go_wp2_with (go_at_call 180; refine (blank_any u[u.size - 1] _).mono ?_; rw [H2.out]; rintro e w' ⟨rfl, rfl⟩)
              go_ret
              refine ⟨ret_str (bytes_eq ?_), rfl⟩
              rw [← Hix.out]
              conv => rhs; rw [EU.out, trimR_last H2.out, ← EU.out]
          · go_wp2
            go_ret
            refine ⟨ret_str (bytes_eq ?_), rfl⟩
            rw [← Hix.out]
            have e0 : u.data.toList = [] := List.eq_nil_of_length_eq_zero (by rw [data_len]; omega)
            rw [e0]; rfl
    · go_wp2
      have e0 : t.data.toList = [] := List.eq_nil_of_length_eq_zero (by rw [data_len]; omega)
      have e1 : trimR t.data.toList = trim s.data.toList := by
        have := Hix.out
        rw [e0, trimL_nil] at this
        rw [e0, trim, ← trim_comm, ← this]
      have E1 := Lib.hid e1; clear e1 Hix
      go_loop [0] (fun x => ∃ u : ByteArray, x = .string u ∧ u.size ≤ s.size ∧ trimR u.data.toList = trim s.data.toList) (fun x => strSize x)
      case atStart => exact ⟨t, rfl, ht, E1.out⟩
      case round =>
        clear E1
        obtain ⟨u, rfl, hu, hix⟩ := hrel
        have Hix := Lib.hid hix; clear hix
        by_cases hlu : 0 < u.size
        · have eu : u.data.toList = u.data.toList.take (u.size - 1) ++ [u[u.size - 1]] := by
            have := data_split u (u.size - 1) (by omega)
            rw [List.drop_eq_nil_of_le (by rw [data_len]; omega)] at this
            exact this
          have EU := Lib.hid eu; clear eu
          by_cases h1 : isBlank u[u.size - 1] = true
          · have H1 := Lib.hid h1; clear h1
            go_wp2_with (go_at_call 180; refine (blank_any u[u.size - 1] _).mono ?_; rw [H1.out]; rintro e w' ⟨rfl, rfl⟩)
            go_round
            case rel =>
              refine ⟨_, rfl, by simp; omega, ?_⟩
              rw [take_data _ _ (by omega), ← Hix.out]
              conv => rhs; rw [EU.out]
              rw [trimR_blank H1.out]
            case measure => simp [strSize]; omega
          · have h2 : isBlank u[u.size - 1] = false := by simpa using h1
            have H2 := Lib.hid h2; clear h1 h2
            go_wp2_with (go_at_call 180; refine (blank_any u[u.size - 1] _).mono ?_; rw [H2.out]; rintro e w' ⟨rfl, rfl⟩)
            go_ret
            refine ⟨ret_str (bytes_eq ?_), rfl⟩
            rw [← Hix.out]
            conv => rhs; rw [EU.out, trimR_last H2.out, ← EU.out]
        · go_wp2
          go_ret
          refine ⟨ret_str (bytes_eq ?_), rfl⟩
          rw [← Hix.out]
          have e0 : u.data.toList = [] := List.eq_nil_of_length_eq_zero (by rw [data_len]; omega)
          rw [e0]; rfl
end Go.Proofs.YtclgkkencpkjpaaGreatDoor
