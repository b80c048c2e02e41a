/- Walks of layer 1: numbers by the document's answer, two lists held against each other. No condition but that lengths are within bounds. -/
import Derived.Test.YtclgkkencpkjpaaGreatDoorOct7
import Derived.Test.YtclgkkencpkjpaaGreatDoorOct5
namespace Go.Proofs.YtclgkkencpkjpaaGreatDoor
open Go.RowKit IH
set_option maxRecDepth 100000

theorem Number_any (s : ByteArray) (hs : s.size ≤ 1000000000) (most : Int) (hm1 : -9223372036854775808 ≤ most) (hm2 : most ≤ 9223372036854775807) (w : World) :
    Calls Tryz.prog 56 #[.string s, .int .i64 most] w fun e w' => e = .returned (.tuple #[.int .i64 (numR 10 most s.data.toList).1, .int .i64 (numR 10 most s.data.toList).2]) ∧ Below w.heap.size w w' := by
  go_enter Tryz.func56, Tryz.ntmps56
  go_wp2_with (go_at_call 114; refine (number10_any s hs most hm1 hm2 _).mono ?_; rintro e w1 ⟨rfl, hb1⟩)
  go_ret2
  exact ⟨rfl, hb1⟩
theorem Hex_any (s : ByteArray) (hs : s.size ≤ 1000000000) (most : Int) (hm1 : -9223372036854775808 ≤ most) (hm2 : most ≤ 9223372036854775807) (w : World) :
    Calls Tryz.prog 272 #[.string s, .int .i64 most] w fun e w' => e = .returned (.tuple #[.int .i64 (numR 16 most s.data.toList).1, .int .i64 (numR 16 most s.data.toList).2]) ∧ Below w.heap.size w w' := by
  go_enter Tryz.func272, Tryz.ntmps272
  go_wp2_with (go_at_call 114; refine (number16_any s hs most hm1 hm2 _).mono ?_; rintro e w1 ⟨rfl, hb1⟩)
  go_ret2
  exact ⟨rfl, hb1⟩

theorem digit_any (c : UInt8) (w : World) :
    Calls Tryz.prog 179 #[.int .u8 c.toNat] w fun e w' => e = .returned (.int .i64 (dig c)) ∧ w = w' := by
  have hc : (c.toNat : Int) ≤ 255 := by have := c.toNat_lt; omega
  have hq : c.toNat < 48 ∨ (48 ≤ c.toNat ∧ c.toNat ≤ 57) ∨ (57 < c.toNat ∧ c.toNat < 65) ∨ (65 ≤ c.toNat ∧ c.toNat ≤ 70) ∨ (70 < c.toNat ∧ c.toNat < 97) ∨ (97 ≤ c.toNat ∧ c.toNat ≤ 102) ∨ 102 < c.toNat := by omega
  rcases hq with h1 | ⟨h1, h2⟩ | ⟨h1, h2⟩ | ⟨h1, h2⟩ | ⟨h1, h2⟩ | ⟨h1, h2⟩ | h1
  all_goals
    go_enter Tryz.func179, Tryz.ntmps179
    go_wp2
    go_ret
    refine ⟨ret_int ?_, rfl⟩
    simp only [dig, Bool.and_eq_true, decide_eq_true_eq]
    repeat' split
    all_goals omega

set_option maxHeartbeats 4000000 in
theorem refNumber10_any (s : ByteArray) (hs : s.size ≤ 1000000000) (most : Int) (hm1 : -9223372036854775808 ≤ most) (hm2 : most ≤ 9223372036854775807) (w : World) :
    Calls Tryz.prog 134 #[.string s, .int .i64 10, .int .i64 most] w fun e w' => e = .returned (.tuple #[.int .i64 (numR 10 most s.data.toList).1, .int .i64 (numR 10 most s.data.toList).2]) ∧ w = w' := by
  by_cases h0 : s.size = 0
  · have e : numR 10 most s.data.toList = (0, 10) := by
      have : s.data.toList = [] := List.eq_nil_of_length_eq_zero (by rw [data_len]; exact h0)
      simp [numR, this]
    have E := Lib.hid e
    clear e
    go_enter Tryz.func134, Tryz.ntmps134
    go_wp2
    go_ret2
    rw [E.out]
    exact ⟨rfl, rfl⟩
  have hpos : 0 < s.size := by omega
  have hne : s.data.toList ≠ [] := fun h => h0 (by rw [← data_len, h]; rfl)
  have Hne := Lib.hid hne
  have hz : ((s.size : Int) == 0) = false := by rw [beq_eq_false_iff_ne]; omega
  clear h0 hne
  go_enter Tryz.func134, Tryz.ntmps134
  go_wp2
  go_loop [8] (fun i => ∃ k : Nat, k ≤ s.size ∧ i = .int .i64 k ∧ badDig 10 (s.data.toList.take k) = false) (fun i => s.size - (intOf i).toNat)
  case atStart => exact ⟨0, by omega, rfl, rfl⟩
  case round =>
    obtain ⟨k, hk, rfl, hix⟩ := hrel
    have Hix := Lib.hid hix; clear hix
    by_cases hlt : k < s.size
    · obtain ⟨c, hc⟩ : ∃ c, s[k] = c := ⟨_, rfl⟩
      have hget : s.data.toList[k]? = some c := by rw [← hc]; exact get_data s k hlt
      have Hget := Lib.hid hget; clear hget
      have D := Lib.hid (digit_any c)
      by_cases hd : dig c < 10
      · have hnx : badDig 10 (s.data.toList.take (k + 1)) = false := by
          rw [take_snoc Hget.out, badDig_append, Hix.out]; simp [badDig]; exact hd
        have Hnx := Lib.hid hnx; clear hnx
        generalize dig c = d at *
        go_wp2_with (go_at_call 179; refine (D.out _).mono ?_; rintro e w' ⟨rfl, rfl⟩)
        go_round
        case rel => exact ⟨k + 1, by omega, by go_num, Hnx.out⟩
        case measure => simp [intOf]; omega
      · have e : numR 10 most s.data.toList = (0, 10) := by
          obtain ⟨hk2, hh⟩ := List.getElem?_eq_some_iff.1 Hget.out
          have : badDig 10 s.data.toList = true := by
            unfold badDig
            rw [List.any_eq_true]
            exact ⟨c, by rw [← hh]; exact List.getElem_mem hk2, by simp; omega⟩
          unfold numR
          rw [if_neg Hne.out, if_pos this]
        have E := Lib.hid e
        clear e
        generalize dig c = d at *
        go_wp2_with (go_at_call 179; refine (D.out _).mono ?_; rintro e w' ⟨rfl, rfl⟩)
        go_ret2
        rw [E.out]
        exact ⟨rfl, rfl⟩
    · have hbad := Hix.out
      rw [List.take_of_length_le (by rw [data_len]; omega)] at hbad
      have Hbad := Lib.hid hbad; clear hbad
      by_cases hm : most < 0
      · have e : numR 10 most s.data.toList = (0, 12) := by
          unfold numR
          rw [if_neg Hne.out, Hbad.out]
          simp [hm]
        have E := Lib.hid e
        clear e
        go_wp2
        go_ret2
        rw [E.out]
        exact ⟨rfl, rfl⟩
      · have e : numR 10 most s.data.toList = accR (accN 10 most 0 s.data.toList) := by
          unfold numR
          rw [if_neg Hne.out, Hbad.out]
          simp [hm]
        have E := Lib.hid e
        clear e
        have hm0 : 0 ≤ most := by omega
        go_wp2
        clear hk hlt Hix
        go_loop [9, 10] (fun x i => ∃ (k : Nat) (n : Int), k ≤ s.size ∧ x = .int .i64 n ∧ i = .int .i64 k ∧ 0 ≤ n ∧ n ≤ most ∧ accN 10 most 0 (s.data.toList.take k) = some n) (fun _ i => s.size - (intOf i).toNat)
        case atStart => exact ⟨0, 0, by omega, rfl, rfl, by omega, by omega, rfl⟩
        case round =>
          obtain ⟨k, n, hk, rfl, rfl, hn0, hn1, hat⟩ := hrel
          have Hat := Lib.hid hat; clear hat
          by_cases hlt : k < s.size
          · obtain ⟨c, hc⟩ : ∃ c, s[k] = c := ⟨_, rfl⟩
            have hget : s.data.toList[k]? = some c := by rw [← hc]; exact get_data s k hlt
            have hd : dig c < 10 := by
              obtain ⟨hk2, hh⟩ := List.getElem?_eq_some_iff.1 hget
              have h1 := Hbad.out
              unfold badDig at h1
              rw [List.any_eq_false] at h1
              have := h1 c (by rw [← hh]; exact List.getElem_mem hk2)
              simp at this
              omega
            have D := Lib.hid (digit_any c)
            have hsn : accN 10 most 0 (s.data.toList.take (k + 1)) = if (dig c : Int) > most ∨ n > (most - dig c) / 10 then none else some (n * 10 + dig c) := by
              rw [take_snoc hget, accN_snoc, Hat.out]
              rfl
            by_cases ho : (dig c : Int) > most ∨ n > (most - dig c) / 10
            · rw [if_pos ho] at hsn
              have hfin : accN 10 most 0 s.data.toList = none := by
                rw [← List.take_append_drop (k + 1) s.data.toList]
                exact accN_none_more _ _ _ _ _ hsn
              have Hfin := Lib.hid hfin; clear hfin hsn hget
              by_cases hd2 : (dig c : Int) ≤ most
              · have ho2 : (most - dig c) / 10 < n := by omega
                clear ho
                generalize dig c = d at *
                go_wp2_with (go_at_call 179; refine (D.out _).mono ?_; rintro e w' ⟨rfl, rfl⟩)
                go_ret2
                rw [E.out, Hfin.out]
                exact ⟨rfl, rfl⟩
              · clear ho
                generalize dig c = d at *
                go_wp2_with (go_at_call 179; refine (D.out _).mono ?_; rintro e w' ⟨rfl, rfl⟩)
                all_goals
                  go_ret2
                  rw [E.out, Hfin.out]
                  exact ⟨rfl, rfl⟩
            · rw [if_neg ho] at hsn
              obtain ⟨hq0, hq1⟩ := accN_bound 10 (by omega) most 0 _ _ hsn (by omega) hm0
              have Hsn := Lib.hid hsn; clear hsn hget
              have hq2 : 0 ≤ n * 10 := by omega
              have ho1 : (dig c : Int) ≤ most := by omega
              have ho2 : n ≤ (most - dig c) / 10 := by omega
              have hb5 : decide ((most - dig c) / 10 < n) = false := by simp; omega
              have hb6 : decide (most < dig c) = false := by simp; omega
              clear ho
              generalize dig c = d at *
              go_wp2_with (go_at_call 179; refine (D.out _).mono ?_; rintro e w' ⟨rfl, rfl⟩)
              go_round
              case rel => exact ⟨k + 1, _, by omega, rfl, by go_num, hq0, hq1, Hsn.out⟩
              case measure => simp [intOf]; omega
          · have hfin := Hat.out
            rw [List.take_of_length_le (by rw [data_len]; omega)] at hfin
            have Hfin := Lib.hid hfin; clear hfin
            go_wp2
            go_ret2
            rw [E.out, Hfin.out]
            exact ⟨rfl, rfl⟩

set_option maxHeartbeats 4000000 in
theorem refNumber16_any (s : ByteArray) (hs : s.size ≤ 1000000000) (most : Int) (hm1 : -9223372036854775808 ≤ most) (hm2 : most ≤ 9223372036854775807) (w : World) :
    Calls Tryz.prog 134 #[.string s, .int .i64 16, .int .i64 most] w fun e w' => e = .returned (.tuple #[.int .i64 (numR 16 most s.data.toList).1, .int .i64 (numR 16 most s.data.toList).2]) ∧ w = w' := by
  by_cases h0 : s.size = 0
  · have e : numR 16 most s.data.toList = (0, 10) := by
      have : s.data.toList = [] := List.eq_nil_of_length_eq_zero (by rw [data_len]; exact h0)
      simp [numR, this]
    have E := Lib.hid e
    clear e
    go_enter Tryz.func134, Tryz.ntmps134
    go_wp2
    go_ret2
    rw [E.out]
    exact ⟨rfl, rfl⟩
  have hpos : 0 < s.size := by omega
  have hne : s.data.toList ≠ [] := fun h => h0 (by rw [← data_len, h]; rfl)
  have Hne := Lib.hid hne
  have hz : ((s.size : Int) == 0) = false := by rw [beq_eq_false_iff_ne]; omega
  clear h0 hne
  go_enter Tryz.func134, Tryz.ntmps134
  go_wp2
  go_loop [8] (fun i => ∃ k : Nat, k ≤ s.size ∧ i = .int .i64 k ∧ badDig 16 (s.data.toList.take k) = false) (fun i => s.size - (intOf i).toNat)
  case atStart => exact ⟨0, by omega, rfl, rfl⟩
  case round =>
    obtain ⟨k, hk, rfl, hix⟩ := hrel
    have Hix := Lib.hid hix; clear hix
    by_cases hlt : k < s.size
    · obtain ⟨c, hc⟩ : ∃ c, s[k] = c := ⟨_, rfl⟩
      have hget : s.data.toList[k]? = some c := by rw [← hc]; exact get_data s k hlt
      have Hget := Lib.hid hget; clear hget
      have D := Lib.hid (digit_any c)
      by_cases hd : dig c < 16
      · have hnx : badDig 16 (s.data.toList.take (k + 1)) = false := by
          rw [take_snoc Hget.out, badDig_append, Hix.out]; simp [badDig]; exact hd
        have Hnx := Lib.hid hnx; clear hnx
        generalize dig c = d at *
        go_wp2_with (go_at_call 179; refine (D.out _).mono ?_; rintro e w' ⟨rfl, rfl⟩)
        go_round
        case rel => exact ⟨k + 1, by omega, by go_num, Hnx.out⟩
        case measure => simp [intOf]; omega
      · have e : numR 16 most s.data.toList = (0, 10) := by
          obtain ⟨hk2, hh⟩ := List.getElem?_eq_some_iff.1 Hget.out
          have : badDig 16 s.data.toList = true := by
            unfold badDig
            rw [List.any_eq_true]
            exact ⟨c, by rw [← hh]; exact List.getElem_mem hk2, by simp; omega⟩
          unfold numR
          rw [if_neg Hne.out, if_pos this]
        have E := Lib.hid e
        clear e
        generalize dig c = d at *
        go_wp2_with (go_at_call 179; refine (D.out _).mono ?_; rintro e w' ⟨rfl, rfl⟩)
        go_ret2
        rw [E.out]
        exact ⟨rfl, rfl⟩
    · have hbad := Hix.out
      rw [List.take_of_length_le (by rw [data_len]; omega)] at hbad
      have Hbad := Lib.hid hbad; clear hbad
      by_cases hm : most < 0
      · have e : numR 16 most s.data.toList = (0, 12) := by
          unfold numR
          rw [if_neg Hne.out, Hbad.out]
          simp [hm]
        have E := Lib.hid e
        clear e
        go_wp2
        go_ret2
        rw [E.out]
        exact ⟨rfl, rfl⟩
      · have e : numR 16 most s.data.toList = accR (accN 16 most 0 s.data.toList) := by
          unfold numR
          rw [if_neg Hne.out, Hbad.out]
          simp [hm]
        have E := Lib.hid e
        clear e
        have hm0 : 0 ≤ most := by omega
        go_wp2
        clear hk hlt Hix
        go_loop [9, 10] (fun x i => ∃ (k : Nat) (n : Int), k ≤ s.size ∧ x = .int .i64 n ∧ i = .int .i64 k ∧ 0 ≤ n ∧ n ≤ most ∧ accN 16 most 0 (s.data.toList.take k) = some n) (fun _ i => s.size - (intOf i).toNat)
        case atStart => exact ⟨0, 0, by omega, rfl, rfl, by omega, by omega, rfl⟩
        case round =>
          obtain ⟨k, n, hk, rfl, rfl, hn0, hn1, hat⟩ := hrel
          have Hat := Lib.hid hat; clear hat
          by_cases hlt : k < s.size
          · obtain ⟨c, hc⟩ : ∃ c, s[k] = c := ⟨_, rfl⟩
            have hget : s.data.toList[k]? = some c := by rw [← hc]; exact get_data s k hlt
            have hd : dig c < 16 := by
              obtain ⟨hk2, hh⟩ := List.getElem?_eq_some_iff.1 hget
              have h1 := Hbad.out
              unfold badDig at h1
              rw [List.any_eq_false] at h1
              have := h1 c (by rw [← hh]; exact List.getElem_mem hk2)
              simp at this
              omega
            have D := Lib.hid (digit_any c)
            have hsn : accN 16 most 0 (s.data.toList.take (k + 1)) = if (dig c : Int) > most ∨ n > (most - dig c) / 16 then none else some (n * 16 + dig c) := by
              rw [take_snoc hget, accN_snoc, Hat.out]
              rfl
            by_cases ho : (dig c : Int) > most ∨ n > (most - dig c) / 16
            · rw [if_pos ho] at hsn
              have hfin : accN 16 most 0 s.data.toList = none := by
                rw [← List.take_append_drop (k + 1) s.data.toList]
                exact accN_none_more _ _ _ _ _ hsn
              have Hfin := Lib.hid hfin; clear hfin hsn hget
              by_cases hd2 : (dig c : Int) ≤ most
              · have ho2 : (most - dig c) / 16 < n := by omega
                clear ho
                generalize dig c = d at *
                go_wp2_with (go_at_call 179; refine (D.out _).mono ?_; rintro e w' ⟨rfl, rfl⟩)
                go_ret2
                rw [E.out, Hfin.out]
                exact ⟨rfl, rfl⟩
              · clear ho
                generalize dig c = d at *
                go_wp2_with (go_at_call 179; refine (D.out _).mono ?_; rintro e w' ⟨rfl, rfl⟩)
                all_goals
                  go_ret2
                  rw [E.out, Hfin.out]
                  exact ⟨rfl, rfl⟩
            · rw [if_neg ho] at hsn
              obtain ⟨hq0, hq1⟩ := accN_bound 16 (by omega) most 0 _ _ hsn (by omega) hm0
              have Hsn := Lib.hid hsn; clear hsn hget
              have hq2 : 0 ≤ n * 16 := by omega
              have ho1 : (dig c : Int) ≤ most := by omega
              have ho2 : n ≤ (most - dig c) / 16 := by omega
              have hb5 : decide ((most - dig c) / 16 < n) = false := by simp; omega
              have hb6 : decide (most < dig c) = false := by simp; omega
              clear ho
              generalize dig c = d at *
              go_wp2_with (go_at_call 179; refine (D.out _).mono ?_; rintro e w' ⟨rfl, rfl⟩)
              go_round
              case rel => exact ⟨k + 1, _, by omega, rfl, by go_num, hq0, hq1, Hsn.out⟩
              case measure => simp [intOf]; omega
          · have hfin := Hat.out
            rw [List.take_of_length_le (by rw [data_len]; omega)] at hfin
            have Hfin := Lib.hid hfin; clear hfin
            go_wp2
            go_ret2
            rw [E.out, Hfin.out]
            exact ⟨rfl, rfl⟩

def sameL (a b : List (List UInt8)) : Bool := decide (a = b)
theorem sameL_len {a b : List (List UInt8)} (h : a.length ≠ b.length) : sameL a b = false := by
  unfold sameL; rw [decide_eq_false_iff_not]; rintro rfl; exact h rfl
theorem sameL_ne {a b : List (List UInt8)} {k : Nat} {x y : List UInt8} (ha : a[k]? = some x) (hb : b[k]? = some y) (h : x ≠ y) : sameL a b = false := by
  unfold sameL; rw [decide_eq_false_iff_not]; rintro rfl; rw [ha] at hb; exact h (Option.some.inj hb)
theorem sameL_all {a b : List (List UInt8)} (hl : a.length = b.length) (h : a.take b.length = b.take b.length) : sameL a b = true := by
  unfold sameL
  rw [decide_eq_true_iff]
  rw [List.take_of_length_le (by omega), List.take_of_length_le (by omega)] at h
  exact h

theorem Same_any (A A' : Option Addr) (n n' c c' : Nat) (L L' : List (List UInt8)) (w : World) (B B' : Nat) (hin : SliceIn w B 1 A n c (strsV L)) (hin' : SliceIn w B' 1 A' n' c' (strsV L')) :
    Calls Tryz.prog 19 #[.slice A n c, .slice A' n' c'] w fun e w' => e = .returned (.bool (sameL L L')) ∧ ∃ nq, w' = w.drewN nq := by
  have hn : n ≤ 9223372036854775807 := by have := hin.2.1; have := hin.2.2.1; simp only [maxLen] at this; omega
  have hn' : n' ≤ 9223372036854775807 := by have := hin'.2.1; have := hin'.2.2.1; simp only [maxLen] at this; omega
  have hL : L.length = n := by have := hin.1; rw [strsV_length] at this; omega
  have hL' : L'.length = n' := by have := hin'.1; rw [strsV_length] at this; omega
  by_cases hne : n = n'
  · subst hne
    go_enter Tryz.func19, Tryz.ntmps19
    go_wp2
    go_loopw [5] (fun i wr => ∃ (k nq : Nat), k ≤ n ∧ i = .int .i64 k ∧ L.take k = L'.take k ∧ wr = w.drewN nq) (fun i _ => n - (intOf i).toNat)
    case atStart => exact ⟨0, 0, by omega, rfl, by simp, rfl⟩
    case round =>
      obtain ⟨k, nq, hk, rfl, hix, rfl⟩ := hrel
      have Hix := Lib.hid hix; clear hix
      by_cases hlt : k < n
      · obtain ⟨l, hl⟩ : ∃ l, L[k]? = some l := ⟨_, List.getElem?_eq_getElem (by omega)⟩
        obtain ⟨l', hl'⟩ : ∃ l, L'[k]? = some l := ⟨_, List.getElem?_eq_getElem (by omega)⟩
        obtain ⟨b, off, rfl, hb, hc⟩ := hin.2.2.2 (by omega)
        obtain ⟨b', off', rfl, hb', hc'⟩ := hin'.2.2.2 (by omega)
        have hcell : w.cell? ⟨b, off + k, none⟩ = some (.string ⟨l.toArray⟩) := hc k _ (by rw [strsV_get, hl]; rfl)
        have hcell' : w.cell? ⟨b', off' + k, none⟩ = some (.string ⟨l'.toArray⟩) := hc' k _ (by rw [strsV_get, hl']; rfl)
        have Hl := Lib.hid hl
        have Hl' := Lib.hid hl'
        clear hl hl' hc hc'
        by_cases he : l = l'
        · subst he
          go_wp2
          go_quiet (fail)
          go_wp2
          go_roundw
          case rel => exact ⟨k + 1, _, by omega, by go_num, by rw [List.take_add_one, List.take_add_one, Hix.out, Hl.out, Hl'.out], rfl⟩
          case measure => simp [intOf]; omega
        · have hs := sameL_ne Hl.out Hl'.out he
          have Hs := Lib.hid hs
          have hb2 : (l == l') = false := by simpa using he
          clear hs he
          go_wp2
          go_quiet (fail)
          go_wp2
          go_ret
          rw [Hs.out]
          exact ⟨rfl, _, World.drewN_drewN _ _ _⟩
      · have hs : sameL L L' = true := sameL_all (by omega) (by rw [hL', show n = k by omega]; exact Hix.out)
        have Hs := Lib.hid hs
        clear hs
        go_wp2
        go_ret
        rw [Hs.out]
        exact ⟨rfl, _, rfl⟩
  · have hs := sameL_len (a := L) (b := L') (by omega)
    have Hs := Lib.hid hs
    have hb : ((n : Int) == (n' : Int)) = false := by rw [beq_eq_false_iff_ne]; omega
    have hb2 : ((n : Int) != (n' : Int)) = true := by rw [bne_iff_ne]; omega
    clear hs hne
    go_enter Tryz.func19, Tryz.ntmps19
    go_wp2
    go_ret
    rw [Hs.out]
    exact ⟨rfl, 0, rfl⟩
end Go.Proofs.YtclgkkencpkjpaaGreatDoor
