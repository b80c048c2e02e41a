/- Walks of layer 1: what a quoted text says. No condition but that lengths are within bounds. -/
import Derived.Test.YtclgkkencpkjpaaGreatDoorBuild
import Derived.Test.YtclgkkencpkjpaaGreatDoorPm
import Derived.Test.YtclgkkencpkjpaaGreatDoorOct5
namespace Go.Proofs.YtclgkkencpkjpaaGreatDoor
open Go.RowKit IH
set_option maxRecDepth 100000

theorem HasPrefix_any (s p : ByteArray) (w : World) :
    Calls Tryz.prog 62 #[.string s, .string p] w fun e w' => e = .returned (.bool (Lib.hasPrefix s.data.toList p.data.toList)) ∧ w = w' := by
  refine (Tryz.strings_HasPrefix s p w).mono ?_
  rintro e w' ⟨rfl, rfl⟩
  exact ⟨rfl, rfl⟩

def unqV (r : List UInt8 × Int × Int) : Value := .tuple #[.string ⟨r.1.toArray⟩, .int .i64 r.2.1, .int .i64 r.2.2]

theorem prefix34 (s : ByteArray) : (Lib.hasPrefix s.data.toList [34] = false ∧ unquote s.data.toList = ([], 0, 10)) ∨
    (Lib.hasPrefix s.data.toList [34] = true ∧ 1 ≤ s.size ∧ unquote s.data.toList = unqF [] 1 (s.data.toList.drop 1)) := by
  have hl := data_len s
  generalize s.data.toList = l at *
  cases l with
  | nil => left; exact ⟨rfl, rfl⟩
  | cons c r =>
    by_cases h : c = 34
    · right
      subst h
      refine ⟨by simp [Lib.hasPrefix], by rw [← hl]; simp, by simp [unquote]⟩
    · left
      refine ⟨?_, by simp [unquote, h]⟩
      have : ((34 : UInt8) == c) = false := by rw [beq_eq_false_iff_ne]; exact fun hh => h (Eq.symm hh)
      show (([34] : List UInt8).isPrefixOf (c :: r)) = false
      rw [List.isPrefixOf, this]; rfl

set_option maxHeartbeats 4000000 in
theorem Unquote_any (s : ByteArray) (hs : s.size ≤ 1000000000) (w : World) :
    Calls Tryz.prog 16 #[.string s] w fun e w' => e = .returned (unqV (unquote s.data.toList)) ∧ Below w.heap.size w w' := by
  have HP := Lib.hid (HasPrefix_any s ⟨#[34]⟩)
  rcases prefix34 s with ⟨h1, h2⟩ | ⟨h1, h0, h2⟩
  · rw [h2]
    have e : (⟨#[34]⟩ : ByteArray).data.toList = [34] := rfl
    rw [e, h1] at HP
    clear h1 h2 e
    go_enter Tryz.func16, Tryz.ntmps16
    go_wp2_with (go_at_call 62; refine (HP.out _).mono ?_; rintro e w' ⟨rfl, rfl⟩)
    go_ret3
    exact ⟨rfl, Below.refl _ _⟩
  · rw [h2]
    have e : (⟨#[34]⟩ : ByteArray).data.toList = [34] := rfl
    rw [e, h1] at HP
    obtain ⟨U, hU⟩ : ∃ U, unqF [] 1 (s.data.toList.drop 1) = U := ⟨_, rfl⟩
    rw [hU]
    have HU := Lib.hid hU
    clear h1 h2 e hU
    go_enter Tryz.func16, Tryz.ntmps16
    go_wp2_with (go_at_call 62; refine (HP.out _).mono ?_; rintro e w' ⟨rfl, rfl⟩)
    have hbld := Bld.new w
    have hbel : Below w.heap.size w (w.alloc (.cells #[.pointer none, .slice none 0 0] 117)) := (Below.refl _ _).alloc (Nat.le_refl _) _
    go_loopw [6] (fun i wr => ∃ (k : Nat) (acc : List UInt8), i = .int .i64 k ∧ k ≤ s.size ∧ acc.length ≤ k ∧ U = unqF acc k (s.data.toList.drop k) ∧ Bld wr w.heap.size w.heap.size acc ∧ Below w.heap.size w wr) (fun i _ => s.size - (intOf i).toNat)
    case atStart => exact ⟨1, [], rfl, h0, by simp, HU.out.symm, hbld, hbel⟩
    case round =>
      clear HU hbld hbel
      obtain ⟨k, acc, rfl, hk, hacc, hat, hbld, hbel⟩ := hrel
      have hB : w.heap.size ≤ wr.heap.size := hbel.size
      by_cases hlt : k < s.size
      · obtain ⟨c, hc⟩ : ∃ c, s[k] = c := ⟨_, rfl⟩
        rw [data_drop s k hlt, hc] at hat
        by_cases h34 : c = 34
        · subst h34
          rw [unqF_end] at hat
          have Hat := Lib.hid hat; clear hat
          go_wp2_with (go_at_call 63; refine (String_any _ _ acc _ hbld hB).mono ?_; rintro e w2 ⟨rfl, hb2⟩)
          go_ret3
          rw [Hat.out]
          exact ⟨rfl, hbel.trans hb2⟩
        · have b34 : ((c.toNat : Int) == 34) = false := by rw [Bool.eq_false_iff]; exact fun h => h34 ((byte_lit c 34 (by omega)).1 h)
          by_cases h92 : c = 92
          · subst h92
            by_cases hk1 : k + 1 < s.size
            · obtain ⟨d, hd⟩ : ∃ d, s[k + 1] = d := ⟨_, rfl⟩
              rw [data_drop s (k + 1) hk1, hd, unqF_esc] at hat
              have PL := Lib.hid (plain_any d)
              by_cases hp : isPlain d = true
              · rw [if_pos hp] at hat
                rw [hp] at PL
                have Hat := Lib.hid hat; clear hat hp h34
                go_wp2_with (first
                  | (go_at_call 58; refine (PL.out _).mono ?_; rintro e w2 ⟨rfl, rfl⟩)
                  | (go_at_call 64; refine (WriteByte_any _ _ acc d _ hbld (by omega) hB).mono ?_; rintro e w2 ⟨rfl, hbld2, hb2⟩))
                go_roundw
                case rel => exact ⟨k + 2, acc ++ [d], by go_num, by omega, by simp; omega, Hat.out, hbld2, hbel.trans (hb2.mono (Nat.le_refl _))⟩
                case measure => simp [intOf]; omega
              · have hp' : isPlain d = false := by simpa using hp
                rw [if_neg hp] at hat
                rw [hp'] at PL
                have Hat := Lib.hid hat; clear hat hp hp' h34
                go_wp2_with (go_at_call 58; refine (PL.out _).mono ?_; rintro e w2 ⟨rfl, rfl⟩)
                go_ret3
                rw [Hat.out]
                exact ⟨rfl, hbel⟩
            · rw [List.drop_eq_nil_of_le (by rw [data_len]; omega), unqF_esc_nil] at hat
              have Hat := Lib.hid hat; clear hat h34
              go_wp2
              go_ret3
              rw [Hat.out]
              exact ⟨rfl, hbel⟩
          · have b92 : ((c.toNat : Int) == 92) = false := by rw [Bool.eq_false_iff]; exact fun h => h92 ((byte_lit c 92 (by omega)).1 h)
            rw [unqF_plain _ _ _ _ h34 h92] at hat
            have PL := Lib.hid (plain_any c)
            by_cases hp : isPlain c = true
            · rw [if_pos hp] at hat
              rw [hp] at PL
              have Hat := Lib.hid hat; clear hat hp h34 h92
              go_wp2_with (first
                | (go_at_call 58; refine (PL.out _).mono ?_; rintro e w2 ⟨rfl, rfl⟩)
                | (go_at_call 64; refine (WriteByte_any _ _ acc c _ hbld (by omega) hB).mono ?_; rintro e w2 ⟨rfl, hbld2, hb2⟩))
              go_roundw
              case rel => exact ⟨k + 1, acc ++ [c], by go_num, by omega, by simp; omega, Hat.out, hbld2, hbel.trans (hb2.mono (Nat.le_refl _))⟩
              case measure => simp [intOf]; omega
            · have hp' : isPlain c = false := by simpa using hp
              rw [if_neg hp] at hat
              rw [hp'] at PL
              have Hat := Lib.hid hat; clear hat hp hp' h34 h92
              go_wp2_with (go_at_call 58; refine (PL.out _).mono ?_; rintro e w2 ⟨rfl, rfl⟩)
              go_ret3
              rw [Hat.out]
              exact ⟨rfl, hbel⟩
      · rw [List.drop_eq_nil_of_le (by rw [data_len]; omega), unqF_nil] at hat
        have Hat := Lib.hid hat; clear hat
        go_wp2
        go_ret3
        rw [Hat.out]
        exact ⟨rfl, hbel⟩
end Go.Proofs.YtclgkkencpkjpaaGreatDoor
