/- Og: several texts, one behind the other. -/
import Derived.Test.YtniiadhhefgmcaaGreatDoorOct4
import Derived.Test.YtniiadhhefgmcaaGreatDoorPm
import Derived.Test.YtniiadhhefgmcaaGreatDoorShelf
import Derived.Test.YtniiadhhefgmcaaGreatDoorOct5
/- Walks of layer 1: numbers out of digits. No condition but that lengths are within bounds. -/
namespace Go.Proofs.YtniiadhhefgmcaaGreatDoor
open Go.RowKit IH
set_option maxRecDepth 100000

theorem digIx_10 (c : UInt8) : Lib.indexByte [48, 49, 50, 51, 52, 53, 54, 55, 56, 57] (lowerC c) = digIx 10 c := by
  have := all_bytes (fun c => Lib.indexByte [48, 49, 50, 51, 52, 53, 54, 55, 56, 57] (lowerC c) == digIx 10 c) (by decide +kernel) c
  exact eq_of_beq this
theorem digIx_16 (c : UInt8) : Lib.indexByte digitsL (lowerC c) = digIx 16 c := by
  have := all_bytes (fun c => Lib.indexByte digitsL (lowerC c) == digIx 16 c) (by decide +kernel) c
  exact eq_of_beq this

/-- Where the code's reading of digits stands: so many octets read, the number so far, is it too long? -/
def numAt (base : Nat) (most : Int) (l : List UInt8) (k : Nat) (n : Int) (long : Bool) : Prop :=
  badDig base (l.take k) = false ∧ (long = false → 0 ≤ most ∧ accN base most 0 (l.take k) = some n ∧ 0 ≤ n ∧ n ≤ most) ∧ (long = true → most < 0 ∨ accN base most 0 (l.take k) = none)

theorem take_snoc {l : List UInt8} {k : Nat} {c : UInt8} (h : l[k]? = some c) : l.take (k + 1) = l.take k ++ [c] := by
  rw [List.take_add_one, h]; rfl
theorem numAt_bad {base : Nat} {most n : Int} {l : List UInt8} {k : Nat} {c : UInt8} {long : Bool} (_h : numAt base most l k n long) (hc : l[k]? = some c) (hd : base ≤ dig c) : numR base most l = (0, 10) := by
  obtain ⟨hk, rfl⟩ := List.getElem?_eq_some_iff.1 hc
  have : badDig base l = true := by
    unfold badDig
    rw [List.any_eq_true]
    exact ⟨l[k], List.getElem_mem hk, by simpa using hd⟩
  have hne : l ≠ [] := by rintro rfl; simp at hk
  unfold numR
  rw [if_neg hne, if_pos this]
theorem numAt_long {base : Nat} {most n : Int} {l : List UInt8} {k : Nat} {c : UInt8} (h : numAt base most l k n true) (hc : l[k]? = some c) (hd : dig c < base) : numAt base most l (k + 1) n true := by
  obtain ⟨h1, _, h3⟩ := h
  refine ⟨?_, by simp, fun _ => ?_⟩
  · rw [take_snoc hc, badDig_append, h1]; simp [badDig]; exact hd
  · rcases h3 rfl with h | h
    · exact .inl h
    · right; rw [take_snoc hc]; exact accN_none_more _ _ _ _ _ h
theorem numAt_over {base : Nat} {most n : Int} {l : List UInt8} {k : Nat} {c : UInt8} (h : numAt base most l k n false) (hc : l[k]? = some c) (hd : dig c < base)
    (ho : (dig c : Int) > most ∨ n > (most - dig c) / base) : numAt base most l (k + 1) n true := by
  obtain ⟨h1, h2, _⟩ := h
  obtain ⟨_, h4, _, _⟩ := h2 rfl
  refine ⟨?_, by simp, fun _ => .inr ?_⟩
  · rw [take_snoc hc, badDig_append, h1]; simp [badDig]; exact hd
  · rw [take_snoc hc, accN_snoc, h4]
    simp only [if_pos ho]
theorem numAt_more {base : Nat} {most n : Int} {l : List UInt8} {k : Nat} {c : UInt8} (hb : 0 < base) (h : numAt base most l k n false) (hc : l[k]? = some c) (hd : dig c < base)
    (ho : ¬ ((dig c : Int) > most ∨ n > (most - dig c) / base)) : numAt base most l (k + 1) (n * base + dig c) false := by
  obtain ⟨h1, h2, _⟩ := h
  obtain ⟨h0, h4, h5, h6⟩ := h2 rfl
  have e : accN base most 0 (l.take (k + 1)) = some (n * base + dig c) := by
    rw [take_snoc hc, accN_snoc, h4]
    simp only [if_neg ho]
  refine ⟨?_, fun _ => ⟨h0, e, ?_⟩, by simp⟩
  · rw [take_snoc hc, badDig_append, h1]; simp [badDig]; exact hd
  · exact accN_bound base hb most 0 _ _ e (by omega) h0
theorem numAt_end {base : Nat} {most n : Int} {l : List UInt8} {k : Nat} {long : Bool} (h : numAt base most l k n long) (hk : l.length ≤ k) (hne : l ≠ []) :
    numR base most l = if long then (0, 12) else (n, 0) := by
  obtain ⟨h1, h2, h3⟩ := h
  rw [List.take_of_length_le hk] at h1 h2 h3
  unfold numR
  rw [if_neg hne, h1]
  cases long
  · obtain ⟨h0, h4, _, _⟩ := h2 rfl
    rw [h4]
    simp [accR]; omega
  · rcases h3 rfl with h | h
    · simp [h]
    · simp [h, accR]


set_option maxHeartbeats 4000000 in
theorem number10_any (s : ByteArray) (hs : s.size ≤ 1000000000) (most : Int) (hm1 : -9223372036854775808 ≤ most) (hm2 : most ≤ 9223372036854775807) (w : World) :
    Calls Tryz.prog 146 #[.string s, .int .i64 10, .int .i64 most] w fun e w' => e = .returned (.tuple #[.int .i64 (numR 10 most s.data.toList).1, .int .i64 (numR 10 most s.data.toList).2]) ∧ Below w.heap.size w w' := by
  have hcv := fun W S => Lib.run_convert_string_bytes (P := Tryz.prog) W 9 25 5 S Tryz.underlying9 Tryz.underlying25 Tryz.underlying5
  have hll : (lower s.data.toList).length = s.size := by simp only [lower, List.length_map]; exact data_len s
  have hix : ∀ c W, Calls Tryz.prog 164 #[.string ⟨#[48, 49, 50, 51, 52, 53, 54, 55, 56, 57]⟩, .int .u8 (lowerC c).toNat] W fun e w' => e = .returned (.int .i64 (digIx 10 c)) ∧ W = w' := by
    intro c W
    refine (Tryz.strings_IndexByte _ _ _).mono ?_
    rintro e w' ⟨rfl, rfl⟩
    refine ⟨?_, rfl⟩
    rw [← digIx_10]
    simp
  have Hix := Lib.hid hix; clear hix
  go_enter Tryz.func146, Tryz.ntmps146
  go_wp2_with (go_at_call 65; refine (Lower_any s hs _).mono ?_; rintro e w1 ⟨rfl, hb1⟩)
  clear hcv hll
  have hrow := RowAt.bytes w1 5 ⟨(lower s.data.toList).toArray⟩
  have hb2 : Below w.heap.size w (Lib.bytesWorld w1 5 ⟨(lower s.data.toList).toArray⟩) := hb1.trans ((below_bytesWorld w1 5 _).mono hb1.size)
  generalize Lib.bytesWorld w1 5 ⟨(lower s.data.toList).toArray⟩ = W at *
  generalize grownCap w1 s.size 0 5 = C at *
  generalize w1.heap.size = g at *
  have Hrow := Lib.hid hrow; clear hrow
  go_loop [8, 9, 19] (fun x b i => ∃ (k : Nat) (n : Int) (long : Bool), k ≤ s.size ∧ x = .int .i64 n ∧ b = .bool long ∧ i = .int .i64 k ∧ numAt 10 most s.data.toList k n long) (fun _ _ i => s.size - (intOf i).toNat)
  case atStart => exact ⟨0, 0, _, by omega, rfl, rfl, rfl, rfl, fun h => by have := of_decide_eq_false h; exact ⟨by omega, rfl, by omega, by omega⟩, fun h => .inl (of_decide_eq_true h)⟩
  case round =>
    obtain ⟨k, n, long, hk, rfl, rfl, rfl, hat⟩ := hrel
    by_cases hlt : k < s.size
    · obtain ⟨c, hc⟩ : ∃ c, s.data.toList[k]? = some c := ⟨_, get_data s k hlt⟩
      have hcell : W.cell? ⟨g, k, none⟩ = some (.int .u8 (lowerC c).toNat) := Hrow.out.cell (by
        rw [bytesV_get]
        show ((lower s.data.toList)[k]?).map byteV = _
        rw [lower, List.getElem?_map, hc]; rfl)
      by_cases hd : dig c < 10
      · have hix1 := Hix.out c
        have e : digIx 10 c = (dig c : Int) := by unfold digIx; rw [if_pos hd]
        rw [e] at hix1
        have Hix1 := Lib.hid hix1
        clear e hix1
        cases long
        · obtain ⟨hm0, _, hn0, hn1⟩ := hat.2.1 rfl
          by_cases ho : (dig c : Int) > most ∨ n > (most - dig c) / 10
          · have hnx := numAt_over hat hc hd ho
            have Hnx := Lib.hid hnx
            clear hnx hat hc
            by_cases hd2 : (dig c : Int) ≤ most
            · have ho2 : (most - dig c) / 10 < n := by omega
              clear ho
              generalize dig c = d at *
              go_wp2_with (go_at_call 164; refine (Hix1.out _).mono ?_; rintro e w' ⟨rfl, rfl⟩)
              go_round
              case rel => exact ⟨k + 1, n, true, by omega, rfl, rfl, by go_num, Hnx.out⟩
              case measure => simp [intOf]; omega
            · clear ho
              generalize dig c = d at *
              go_wp2_with (go_at_call 164; refine (Hix1.out _).mono ?_; rintro e w' ⟨rfl, rfl⟩)
              all_goals
                go_round
                case rel => exact ⟨k + 1, n, true, by omega, rfl, rfl, by go_num, Hnx.out⟩
                case measure => simp [intOf]; omega
          · have hnx := numAt_more (by omega) hat hc hd ho
            obtain ⟨_, _, hq0, hq1⟩ := hnx.2.1 rfl
            have Hnx := Lib.hid hnx
            have hq2 : 0 ≤ n * 10 := by omega
            clear hnx hat hc
            have ho1 : (dig c : Int) ≤ most := by omega
            have ho2 : n ≤ (most - dig c) / 10 := by omega
            have hb5 : decide ((most - dig c) / 10 < n) = false := by simp; omega
            have hb6 : decide (most < dig c) = false := by simp; omega
            clear ho
            generalize dig c = d at *
            go_wp2_with (go_at_call 164; refine (Hix1.out _).mono ?_; rintro e w' ⟨rfl, rfl⟩)
            go_round
            case rel => exact ⟨k + 1, _, false, by omega, rfl, rfl, by go_num, Hnx.out⟩
            case measure => simp [intOf]; omega
        · have hnx := numAt_long hat hc hd
          have Hnx := Lib.hid hnx
          clear hnx hat hc
          generalize dig c = d at *
          go_wp2_with (go_at_call 164; refine (Hix1.out _).mono ?_; rintro e w' ⟨rfl, rfl⟩)
          go_round
          case rel => exact ⟨k + 1, n, true, by omega, rfl, rfl, by go_num, Hnx.out⟩
          case measure => simp [intOf]; omega
      · have hix1 := Hix.out c
        have e : digIx 10 c = -1 := by unfold digIx; rw [if_neg hd]
        rw [e] at hix1
        have Hix1 := Lib.hid hix1
        have hend := numAt_bad hat hc (by omega)
        have Hend := Lib.hid hend
        clear e hix1 hend hat hc
        go_wp2_with (go_at_call 164; refine (Hix1.out _).mono ?_; rintro e w' ⟨rfl, rfl⟩)
        go_ret2
        rw [Hend.out]
        exact ⟨rfl, hb2⟩
    · by_cases hne : s.toList = []
      · have e : numR 10 most s.data.toList = (0, 10) := by rw [ByteArray.toList_eq] at hne; simp [numR, hne]
        have E := Lib.hid e
        clear e hat
        go_wp2
        go_ret2
        rw [E.out]
        exact ⟨rfl, hb2⟩
      · have hne' : s.toList.isEmpty = false := by simpa using hne
        have e := numAt_end hat (by rw [data_len]; omega) (by rw [← ByteArray.toList_eq]; exact hne)
        have E := Lib.hid e
        clear e hat hne
        cases long
        · go_wp2
          go_ret2
          rw [E.out]
          exact ⟨rfl, hb2⟩
        · go_wp2
          go_ret2
          rw [E.out]
          exact ⟨rfl, hb2⟩

set_option maxHeartbeats 4000000 in
theorem number16_any (s : ByteArray) (hs : s.size ≤ 1000000000) (most : Int) (hm1 : -9223372036854775808 ≤ most) (hm2 : most ≤ 9223372036854775807) (w : World) :
    Calls Tryz.prog 146 #[.string s, .int .i64 16, .int .i64 most] w fun e w' => e = .returned (.tuple #[.int .i64 (numR 16 most s.data.toList).1, .int .i64 (numR 16 most s.data.toList).2]) ∧ Below w.heap.size w w' := by
  have hcv := fun W S => Lib.run_convert_string_bytes (P := Tryz.prog) W 9 25 5 S Tryz.underlying9 Tryz.underlying25 Tryz.underlying5
  have hll : (lower s.data.toList).length = s.size := by simp only [lower, List.length_map]; exact data_len s
  have hix : ∀ c W, Calls Tryz.prog 164 #[.string ⟨#[48, 49, 50, 51, 52, 53, 54, 55, 56, 57, 97, 98, 99, 100, 101, 102]⟩, .int .u8 (lowerC c).toNat] W fun e w' => e = .returned (.int .i64 (digIx 16 c)) ∧ W = w' := by
    intro c W
    refine (Tryz.strings_IndexByte _ _ _).mono ?_
    rintro e w' ⟨rfl, rfl⟩
    refine ⟨?_, rfl⟩
    rw [← digIx_16]
    simp [digitsL]
  have Hix := Lib.hid hix; clear hix
  go_enter Tryz.func146, Tryz.ntmps146
  go_wp2_with (go_at_call 65; refine (Lower_any s hs _).mono ?_; rintro e w1 ⟨rfl, hb1⟩)
  clear hcv hll
  have hrow := RowAt.bytes w1 5 ⟨(lower s.data.toList).toArray⟩
  have hb2 : Below w.heap.size w (Lib.bytesWorld w1 5 ⟨(lower s.data.toList).toArray⟩) := hb1.trans ((below_bytesWorld w1 5 _).mono hb1.size)
  generalize Lib.bytesWorld w1 5 ⟨(lower s.data.toList).toArray⟩ = W at *
  generalize grownCap w1 s.size 0 5 = C at *
  generalize w1.heap.size = g at *
  have Hrow := Lib.hid hrow; clear hrow
  go_loop [8, 9, 19] (fun x b i => ∃ (k : Nat) (n : Int) (long : Bool), k ≤ s.size ∧ x = .int .i64 n ∧ b = .bool long ∧ i = .int .i64 k ∧ numAt 16 most s.data.toList k n long) (fun _ _ i => s.size - (intOf i).toNat)
  case atStart => exact ⟨0, 0, _, by omega, rfl, rfl, rfl, rfl, fun h => by have := of_decide_eq_false h; exact ⟨by omega, rfl, by omega, by omega⟩, fun h => .inl (of_decide_eq_true h)⟩
  case round =>
    obtain ⟨k, n, long, hk, rfl, rfl, rfl, hat⟩ := hrel
    by_cases hlt : k < s.size
    · obtain ⟨c, hc⟩ : ∃ c, s.data.toList[k]? = some c := ⟨_, get_data s k hlt⟩
      have hcell : W.cell? ⟨g, k, none⟩ = some (.int .u8 (lowerC c).toNat) := Hrow.out.cell (by
        rw [bytesV_get]
        show ((lower s.data.toList)[k]?).map byteV = _
        rw [lower, List.getElem?_map, hc]; rfl)
      by_cases hd : dig c < 16
      · have hix1 := Hix.out c
        have e : digIx 16 c = (dig c : Int) := by unfold digIx; rw [if_pos hd]
        rw [e] at hix1
        have Hix1 := Lib.hid hix1
        clear e hix1
        cases long
        · obtain ⟨hm0, _, hn0, hn1⟩ := hat.2.1 rfl
          by_cases ho : (dig c : Int) > most ∨ n > (most - dig c) / 16
          · have hnx := numAt_over hat hc hd ho
            have Hnx := Lib.hid hnx
            clear hnx hat hc
            by_cases hd2 : (dig c : Int) ≤ most
            · have ho2 : (most - dig c) / 16 < n := by omega
              clear ho
              generalize dig c = d at *
              go_wp2_with (go_at_call 164; refine (Hix1.out _).mono ?_; rintro e w' ⟨rfl, rfl⟩)
              go_round
              case rel => exact ⟨k + 1, n, true, by omega, rfl, rfl, by go_num, Hnx.out⟩
              case measure => simp [intOf]; omega
            · clear ho
              generalize dig c = d at *
              go_wp2_with (go_at_call 164; refine (Hix1.out _).mono ?_; rintro e w' ⟨rfl, rfl⟩)
              all_goals
                go_round
                case rel => exact ⟨k + 1, n, true, by omega, rfl, rfl, by go_num, Hnx.out⟩
                case measure => simp [intOf]; omega
          · have hnx := numAt_more (by omega) hat hc hd ho
            obtain ⟨_, _, hq0, hq1⟩ := hnx.2.1 rfl
            have Hnx := Lib.hid hnx
            have hq2 : 0 ≤ n * 16 := by omega
            clear hnx hat hc
            have ho1 : (dig c : Int) ≤ most := by omega
            have ho2 : n ≤ (most - dig c) / 16 := by omega
            have hb5 : decide ((most - dig c) / 16 < n) = false := by simp; omega
            have hb6 : decide (most < dig c) = false := by simp; omega
            clear ho
            generalize dig c = d at *
            go_wp2_with (go_at_call 164; refine (Hix1.out _).mono ?_; rintro e w' ⟨rfl, rfl⟩)
            go_round
            case rel => exact ⟨k + 1, _, false, by omega, rfl, rfl, by go_num, Hnx.out⟩
            case measure => simp [intOf]; omega
        · have hnx := numAt_long hat hc hd
          have Hnx := Lib.hid hnx
          clear hnx hat hc
          generalize dig c = d at *
          go_wp2_with (go_at_call 164; refine (Hix1.out _).mono ?_; rintro e w' ⟨rfl, rfl⟩)
          go_round
          case rel => exact ⟨k + 1, n, true, by omega, rfl, rfl, by go_num, Hnx.out⟩
          case measure => simp [intOf]; omega
      · have hix1 := Hix.out c
        have e : digIx 16 c = -1 := by unfold digIx; rw [if_neg hd]
        rw [e] at hix1
        have Hix1 := Lib.hid hix1
        have hend := numAt_bad hat hc (by omega)
        have Hend := Lib.hid hend
        clear e hix1 hend hat hc
        go_wp2_with (go_at_call 164; refine (Hix1.out _).mono ?_; rintro e w' ⟨rfl, rfl⟩)
        go_ret2
        rw [Hend.out]
        exact ⟨rfl, hb2⟩
    · by_cases hne : s.toList = []
      · have e : numR 16 most s.data.toList = (0, 10) := by rw [ByteArray.toList_eq] at hne; simp [numR, hne]
        have E := Lib.hid e
        clear e hat
        go_wp2
        go_ret2
        rw [E.out]
        exact ⟨rfl, hb2⟩
      · have hne' : s.toList.isEmpty = false := by simpa using hne
        have e := numAt_end hat (by rw [data_len]; omega) (by rw [← ByteArray.toList_eq]; exact hne)
        have E := Lib.hid e
        clear e hat hne
        cases long
        · go_wp2
          go_ret2
          rw [E.out]
          exact ⟨rfl, hb2⟩
        · go_wp2
          go_ret2
          rw [E.out]
          exact ⟨rfl, hb2⟩
end Go.Proofs.YtniiadhhefgmcaaGreatDoor

/- Walks of layer 1: numbers by the document's answer, two lists held against each other. No condition but that lengths are within bounds. -/
namespace Go.Proofs.YtniiadhhefgmcaaGreatDoor
open Go.RowKit IH
set_option maxRecDepth 100000

theorem Number_any (s : ByteArray) (hs : s.size ≤ 1000000000) (most : Int) (hm1 : -9223372036854775808 ≤ most) (hm2 : most ≤ 9223372036854775807) (w : World) :
    Calls Tryz.prog 135 #[.string s, .int .i64 most] w fun e w' => e = .returned (.tuple #[.int .i64 (numR 10 most s.data.toList).1, .int .i64 (numR 10 most s.data.toList).2]) ∧ Below w.heap.size w w' := by
  go_enter Tryz.func135, Tryz.ntmps135
  go_wp2_with (go_at_call 146; refine (number10_any s hs most hm1 hm2 _).mono ?_; rintro e w1 ⟨rfl, hb1⟩)
  go_ret2
  exact ⟨rfl, hb1⟩
theorem Hex_any (s : ByteArray) (hs : s.size ≤ 1000000000) (most : Int) (hm1 : -9223372036854775808 ≤ most) (hm2 : most ≤ 9223372036854775807) (w : World) :
    Calls Tryz.prog 196 #[.string s, .int .i64 most] w fun e w' => e = .returned (.tuple #[.int .i64 (numR 16 most s.data.toList).1, .int .i64 (numR 16 most s.data.toList).2]) ∧ Below w.heap.size w w' := by
  go_enter Tryz.func196, Tryz.ntmps196
  go_wp2_with (go_at_call 146; refine (number16_any s hs most hm1 hm2 _).mono ?_; rintro e w1 ⟨rfl, hb1⟩)
  go_ret2
  exact ⟨rfl, hb1⟩

theorem digit_any (c : UInt8) (w : World) :
    Calls Tryz.prog 114 #[.int .u8 c.toNat] w fun e w' => e = .returned (.int .i64 (dig c)) ∧ w = w' := by
  have hc : (c.toNat : Int) ≤ 255 := by have := c.toNat_lt; omega
  have hq : c.toNat < 48 ∨ (48 ≤ c.toNat ∧ c.toNat ≤ 57) ∨ (57 < c.toNat ∧ c.toNat < 65) ∨ (65 ≤ c.toNat ∧ c.toNat ≤ 70) ∨ (70 < c.toNat ∧ c.toNat < 97) ∨ (97 ≤ c.toNat ∧ c.toNat ≤ 102) ∨ 102 < c.toNat := by omega
  rcases hq with h1 | ⟨h1, h2⟩ | ⟨h1, h2⟩ | ⟨h1, h2⟩ | ⟨h1, h2⟩ | ⟨h1, h2⟩ | h1
  all_goals
    go_enter Tryz.func114, Tryz.ntmps114
    go_wp2
    go_ret
    refine ⟨ret_int ?_, rfl⟩
    simp only [dig, Bool.and_eq_true, decide_eq_true_eq]
    repeat' split
    all_goals omega

set_option maxHeartbeats 4000000 in
theorem refNumber10_any (s : ByteArray) (hs : s.size ≤ 1000000000) (most : Int) (hm1 : -9223372036854775808 ≤ most) (hm2 : most ≤ 9223372036854775807) (w : World) :
    Calls Tryz.prog 81 #[.string s, .int .i64 10, .int .i64 most] w fun e w' => e = .returned (.tuple #[.int .i64 (numR 10 most s.data.toList).1, .int .i64 (numR 10 most s.data.toList).2]) ∧ w = w' := by
  by_cases h0 : s.size = 0
  · have e : numR 10 most s.data.toList = (0, 10) := by
      have : s.data.toList = [] := List.eq_nil_of_length_eq_zero (by rw [data_len]; exact h0)
      simp [numR, this]
    have E := Lib.hid e
    clear e
    go_enter Tryz.func81, Tryz.ntmps81
    go_wp2
    go_ret2
    rw [E.out]
    exact ⟨rfl, rfl⟩
  have hpos : 0 < s.size := by omega
  have hne : s.data.toList ≠ [] := fun h => h0 (by rw [← data_len, h]; rfl)
  have Hne := Lib.hid hne
  have hz : ((s.size : Int) == 0) = false := by rw [beq_eq_false_iff_ne]; omega
  clear h0 hne
  go_enter Tryz.func81, Tryz.ntmps81
  go_wp2
  go_loop [8] (fun i => ∃ k : Nat, k ≤ s.size ∧ i = .int .i64 k ∧ badDig 10 (s.data.toList.take k) = false) (fun i => s.size - (intOf i).toNat)
  case atStart => exact ⟨0, by omega, rfl, rfl⟩
  case round =>
    obtain ⟨k, hk, rfl, hix⟩ := hrel
    have Hix := Lib.hid hix; clear hix
    by_cases hlt : k < s.size
    · obtain ⟨c, hc⟩ : ∃ c, s[k] = c := ⟨_, rfl⟩
      have hget : s.data.toList[k]? = some c := by rw [← hc]; exact get_data s k hlt
      have Hget := Lib.hid hget; clear hget
      have D := Lib.hid (digit_any c)
      by_cases hd : dig c < 10
      · have hnx : badDig 10 (s.data.toList.take (k + 1)) = false := by
          rw [take_snoc Hget.out, badDig_append, Hix.out]; simp [badDig]; exact hd
        have Hnx := Lib.hid hnx; clear hnx
        generalize dig c = d at *
        go_wp2_with (go_at_call 114; refine (D.out _).mono ?_; rintro e w' ⟨rfl, rfl⟩)
        go_round
        case rel => exact ⟨k + 1, by omega, by go_num, Hnx.out⟩
        case measure => simp [intOf]; omega
      · have e : numR 10 most s.data.toList = (0, 10) := by
          obtain ⟨hk2, hh⟩ := List.getElem?_eq_some_iff.1 Hget.out
          have : badDig 10 s.data.toList = true := by
            unfold badDig
            rw [List.any_eq_true]
            exact ⟨c, by rw [← hh]; exact List.getElem_mem hk2, by simp; omega⟩
          unfold numR
          rw [if_neg Hne.out, if_pos this]
        have E := Lib.hid e
        clear e
        generalize dig c = d at *
        go_wp2_with (go_at_call 114; refine (D.out _).mono ?_; rintro e w' ⟨rfl, rfl⟩)
        go_ret2
        rw [E.out]
        exact ⟨rfl, rfl⟩
    · have hbad := Hix.out
      rw [List.take_of_length_le (by rw [data_len]; omega)] at hbad
      have Hbad := Lib.hid hbad; clear hbad
      by_cases hm : most < 0
      · have e : numR 10 most s.data.toList = (0, 12) := by
          unfold numR
          rw [if_neg Hne.out, Hbad.out]
          simp [hm]
        have E := Lib.hid e
        clear e
        go_wp2
        go_ret2
        rw [E.out]
        exact ⟨rfl, rfl⟩
      · have e : numR 10 most s.data.toList = accR (accN 10 most 0 s.data.toList) := by
          unfold numR
          rw [if_neg Hne.out, Hbad.out]
          simp [hm]
        have E := Lib.hid e
        clear e
        have hm0 : 0 ≤ most := by omega
        go_wp2
        clear hk hlt Hix
        go_loop [9, 10] (fun x i => ∃ (k : Nat) (n : Int), k ≤ s.size ∧ x = .int .i64 n ∧ i = .int .i64 k ∧ 0 ≤ n ∧ n ≤ most ∧ accN 10 most 0 (s.data.toList.take k) = some n) (fun _ i => s.size - (intOf i).toNat)
        case atStart => exact ⟨0, 0, by omega, rfl, rfl, by omega, by omega, rfl⟩
        case round =>
          obtain ⟨k, n, hk, rfl, rfl, hn0, hn1, hat⟩ := hrel
          have Hat := Lib.hid hat; clear hat
          by_cases hlt : k < s.size
          · obtain ⟨c, hc⟩ : ∃ c, s[k] = c := ⟨_, rfl⟩
            have hget : s.data.toList[k]? = some c := by rw [← hc]; exact get_data s k hlt
            have hd : dig c < 10 := by
              obtain ⟨hk2, hh⟩ := List.getElem?_eq_some_iff.1 hget
              have h1 := Hbad.out
              unfold badDig at h1
              rw [List.any_eq_false] at h1
              have := h1 c (by rw [← hh]; exact List.getElem_mem hk2)
              simp at this
              omega
            have D := Lib.hid (digit_any c)
            have hsn : accN 10 most 0 (s.data.toList.take (k + 1)) = if (dig c : Int) > most ∨ n > (most - dig c) / 10 then none else some (n * 10 + dig c) := by
              rw [take_snoc hget, accN_snoc, Hat.out]
              rfl
            by_cases ho : (dig c : Int) > most ∨ n > (most - dig c) / 10
            · rw [if_pos ho] at hsn
              have hfin : accN 10 most 0 s.data.toList = none := by
                rw [← List.take_append_drop (k + 1) s.data.toList]
                exact accN_none_more _ _ _ _ _ hsn
              have Hfin := Lib.hid hfin; clear hfin hsn hget
              by_cases hd2 : (dig c : Int) ≤ most
              · have ho2 : (most - dig c) / 10 < n := by omega
                clear ho
                generalize dig c = d at *
                go_wp2_with (go_at_call 114; refine (D.out _).mono ?_; rintro e w' ⟨rfl, rfl⟩)
                go_ret2
                rw [E.out, Hfin.out]
                exact ⟨rfl, rfl⟩
              · clear ho
                generalize dig c = d at *
                go_wp2_with (go_at_call 114; refine (D.out _).mono ?_; rintro e w' ⟨rfl, rfl⟩)
                all_goals
                  go_ret2
                  rw [E.out, Hfin.out]
                  exact ⟨rfl, rfl⟩
            · rw [if_neg ho] at hsn
              obtain ⟨hq0, hq1⟩ := accN_bound 10 (by omega) most 0 _ _ hsn (by omega) hm0
              have Hsn := Lib.hid hsn; clear hsn hget
              have hq2 : 0 ≤ n * 10 := by omega
              have ho1 : (dig c : Int) ≤ most := by omega
              have ho2 : n ≤ (most - dig c) / 10 := by omega
              have hb5 : decide ((most - dig c) / 10 < n) = false := by simp; omega
              have hb6 : decide (most < dig c) = false := by simp; omega
              clear ho
              generalize dig c = d at *
              go_wp2_with (go_at_call 114; refine (D.out _).mono ?_; rintro e w' ⟨rfl, rfl⟩)
              go_round
              case rel => exact ⟨k + 1, _, by omega, rfl, by go_num, hq0, hq1, Hsn.out⟩
              case measure => simp [intOf]; omega
          · have hfin := Hat.out
            rw [List.take_of_length_le (by rw [data_len]; omega)] at hfin
            have Hfin := Lib.hid hfin; clear hfin
            go_wp2
            go_ret2
            rw [E.out, Hfin.out]
            exact ⟨rfl, rfl⟩

set_option maxHeartbeats 4000000 in
theorem refNumber16_any (s : ByteArray) (hs : s.size ≤ 1000000000) (most : Int) (hm1 : -9223372036854775808 ≤ most) (hm2 : most ≤ 9223372036854775807) (w : World) :
    Calls Tryz.prog 81 #[.string s, .int .i64 16, .int .i64 most] w fun e w' => e = .returned (.tuple #[.int .i64 (numR 16 most s.data.toList).1, .int .i64 (numR 16 most s.data.toList).2]) ∧ w = w' := by
  by_cases h0 : s.size = 0
  · have e : numR 16 most s.data.toList = (0, 10) := by
      have : s.data.toList = [] := List.eq_nil_of_length_eq_zero (by rw [data_len]; exact h0)
      simp [numR, this]
    have E := Lib.hid e
    clear e
    go_enter Tryz.func81, Tryz.ntmps81
    go_wp2
    go_ret2
    rw [E.out]
    exact ⟨rfl, rfl⟩
  have hpos : 0 < s.size := by omega
  have hne : s.data.toList ≠ [] := fun h => h0 (by rw [← data_len, h]; rfl)
  have Hne := Lib.hid hne
  have hz : ((s.size : Int) == 0) = false := by rw [beq_eq_false_iff_ne]; omega
  clear h0 hne
  go_enter Tryz.func81, Tryz.ntmps81
  go_wp2
  go_loop [8] (fun i => ∃ k : Nat, k ≤ s.size ∧ i = .int .i64 k ∧ badDig 16 (s.data.toList.take k) = false) (fun i => s.size - (intOf i).toNat)
  case atStart => exact ⟨0, by omega, rfl, rfl⟩
  case round =>
    obtain ⟨k, hk, rfl, hix⟩ := hrel
    have Hix := Lib.hid hix; clear hix
    by_cases hlt : k < s.size
    · obtain ⟨c, hc⟩ : ∃ c, s[k] = c := ⟨_, rfl⟩
      have hget : s.data.toList[k]? = some c := by rw [← hc]; exact get_data s k hlt
      have Hget := Lib.hid hget; clear hget
      have D := Lib.hid (digit_any c)
      by_cases hd : dig c < 16
      · have hnx : badDig 16 (s.data.toList.take (k + 1)) = false := by
          rw [take_snoc Hget.out, badDig_append, Hix.out]; simp [badDig]; exact hd
        have Hnx := Lib.hid hnx; clear hnx
        generalize dig c = d at *
        go_wp2_with (go_at_call 114; refine (D.out _).mono ?_; rintro e w' ⟨rfl, rfl⟩)
        go_round
        case rel => exact ⟨k + 1, by omega, by go_num, Hnx.out⟩
        case measure => simp [intOf]; omega
      · have e : numR 16 most s.data.toList = (0, 10) := by
          obtain ⟨hk2, hh⟩ := List.getElem?_eq_some_iff.1 Hget.out
          have : badDig 16 s.data.toList = true := by
            unfold badDig
            rw [List.any_eq_true]
            exact ⟨c, by rw [← hh]; exact List.getElem_mem hk2, by simp; omega⟩
          unfold numR
          rw [if_neg Hne.out, if_pos this]
        have E := Lib.hid e
        clear e
        generalize dig c = d at *
        go_wp2_with (go_at_call 114; refine (D.out _).mono ?_; rintro e w' ⟨rfl, rfl⟩)
        go_ret2
        rw [E.out]
        exact ⟨rfl, rfl⟩
    · have hbad := Hix.out
      rw [List.take_of_length_le (by rw [data_len]; omega)] at hbad
      have Hbad := Lib.hid hbad; clear hbad
      by_cases hm : most < 0
      · have e : numR 16 most s.data.toList = (0, 12) := by
          unfold numR
          rw [if_neg Hne.out, Hbad.out]
          simp [hm]
        have E := Lib.hid e
        clear e
        go_wp2
        go_ret2
        rw [E.out]
        exact ⟨rfl, rfl⟩
      · have e : numR 16 most s.data.toList = accR (accN 16 most 0 s.data.toList) := by
          unfold numR
          rw [if_neg Hne.out, Hbad.out]
          simp [hm]
        have E := Lib.hid e
        clear e
        have hm0 : 0 ≤ most := by omega
        go_wp2
        clear hk hlt Hix
        go_loop [9, 10] (fun x i => ∃ (k : Nat) (n : Int), k ≤ s.size ∧ x = .int .i64 n ∧ i = .int .i64 k ∧ 0 ≤ n ∧ n ≤ most ∧ accN 16 most 0 (s.data.toList.take k) = some n) (fun _ i => s.size - (intOf i).toNat)
        case atStart => exact ⟨0, 0, by omega, rfl, rfl, by omega, by omega, rfl⟩
        case round =>
          obtain ⟨k, n, hk, rfl, rfl, hn0, hn1, hat⟩ := hrel
          have Hat := Lib.hid hat; clear hat
          by_cases hlt : k < s.size
          · obtain ⟨c, hc⟩ : ∃ c, s[k] = c := ⟨_, rfl⟩
            have hget : s.data.toList[k]? = some c := by rw [← hc]; exact get_data s k hlt
            have hd : dig c < 16 := by
              obtain ⟨hk2, hh⟩ := List.getElem?_eq_some_iff.1 hget
              have h1 := Hbad.out
              unfold badDig at h1
              rw [List.any_eq_false] at h1
              have := h1 c (by rw [← hh]; exact List.getElem_mem hk2)
              simp at this
              omega
            have D := Lib.hid (digit_any c)
            have hsn : accN 16 most 0 (s.data.toList.take (k + 1)) = if (dig c : Int) > most ∨ n > (most - dig c) / 16 then none else some (n * 16 + dig c) := by
              rw [take_snoc hget, accN_snoc, Hat.out]
              rfl
            by_cases ho : (dig c : Int) > most ∨ n > (most - dig c) / 16
            · rw [if_pos ho] at hsn
              have hfin : accN 16 most 0 s.data.toList = none := by
                rw [← List.take_append_drop (k + 1) s.data.toList]
                exact accN_none_more _ _ _ _ _ hsn
              have Hfin := Lib.hid hfin; clear hfin hsn hget
              by_cases hd2 : (dig c : Int) ≤ most
              · have ho2 : (most - dig c) / 16 < n := by omega
                clear ho
                generalize dig c = d at *
                go_wp2_with (go_at_call 114; refine (D.out _).mono ?_; rintro e w' ⟨rfl, rfl⟩)
                go_ret2
                rw [E.out, Hfin.out]
                exact ⟨rfl, rfl⟩
              · clear ho
                generalize dig c = d at *
                go_wp2_with (go_at_call 114; refine (D.out _).mono ?_; rintro e w' ⟨rfl, rfl⟩)
                all_goals
                  go_ret2
                  rw [E.out, Hfin.out]
                  exact ⟨rfl, rfl⟩
            · rw [if_neg ho] at hsn
              obtain ⟨hq0, hq1⟩ := accN_bound 16 (by omega) most 0 _ _ hsn (by omega) hm0
              have Hsn := Lib.hid hsn; clear hsn hget
              have hq2 : 0 ≤ n * 16 := by omega
              have ho1 : (dig c : Int) ≤ most := by omega
              have ho2 : n ≤ (most - dig c) / 16 := by omega
              have hb5 : decide ((most - dig c) / 16 < n) = false := by simp; omega
              have hb6 : decide (most < dig c) = false := by simp; omega
              clear ho
              generalize dig c = d at *
              go_wp2_with (go_at_call 114; refine (D.out _).mono ?_; rintro e w' ⟨rfl, rfl⟩)
              go_round
              case rel => exact ⟨k + 1, _, by omega, rfl, by go_num, hq0, hq1, Hsn.out⟩
              case measure => simp [intOf]; omega
          · have hfin := Hat.out
            rw [List.take_of_length_le (by rw [data_len]; omega)] at hfin
            have Hfin := Lib.hid hfin; clear hfin
            go_wp2
            go_ret2
            rw [E.out, Hfin.out]
            exact ⟨rfl, rfl⟩

end Go.Proofs.YtniiadhhefgmcaaGreatDoor

