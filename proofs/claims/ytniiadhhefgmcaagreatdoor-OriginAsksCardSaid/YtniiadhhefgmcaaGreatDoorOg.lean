/- Og: several texts, one behind the other. -/
import Derived.Test.YtniiadhhefgmcaaGreatDoorOct4
import Derived.Test.YtniiadhhefgmcaaGreatDoorPm
import Derived.Test.YtniiadhhefgmcaaGreatDoorShelf
import Derived.Test.YtniiadhhefgmcaaGreatDoorOct5
/- Walks of layer 1: numbers out of digits. No condition but that lengths are within bounds. -/
namespace Go.Proofs.YtniiadhhefgmcaaGreatDoor
open Go.RowKit IH
set_option maxRecDepth 100000

theorem digIx_10 (c : UInt8) : Lib.indexByte [48, 49, 50, 51, 52, 53, 54, 55, 56, 57] (lowerC c) = digIx 10 c := by
  have := all_bytes (fun c => Lib.indexByte [48, 49, 50, 51, 52, 53, 54, 55, 56, 57] (lowerC c) == digIx 10 c) (by decide +kernel) c
  exact eq_of_beq this
theorem digIx_16 (c : UInt8) : Lib.indexByte digitsL (lowerC c) = digIx 16 c := by
  have := all_bytes (fun c => Lib.indexByte digitsL (lowerC c) == digIx 16 c) (by decide +kernel) c
  exact eq_of_beq this

/-- Where the code's reading of digits stands: so many octets read, the number so far, is it too long? -/
def numAt (base : Nat) (most : Int) (l : List UInt8) (k : Nat) (n : Int) (long : Bool) : Prop :=
  badDig base (l.take k) = false ∧ (long = false → 0 ≤ most ∧ accN base most 0 (l.take k) = some n ∧ 0 ≤ n ∧ n ≤ most) ∧ (long = true → most < 0 ∨ accN base most 0 (l.take k) = none)

theorem take_snoc {l : List UInt8} {k : Nat} {c : UInt8} (h : l[k]? = some c) : l.take (k + 1) = l.take k ++ [c] := by
  rw [List.take_add_one, h]; rfl
theorem numAt_bad {base : Nat} {most n : Int} {l : List UInt8} {k : Nat} {c : UInt8} {long : Bool} (_h : numAt base most l k n long) (hc : l[k]? = some c) (hd : base ≤ dig c) : numR base most l = (0, 10) := by
  obtain ⟨hk, rfl⟩ := List.getElem?_eq_some_iff.1 hc
  have : badDig base l = true := by
    unfold badDig
    rw [List.any_eq_true]
    exact ⟨l[k], List.getElem_mem hk, by simpa using hd⟩
  have hne : l ≠ [] := by rintro rfl; simp at hk
  unfold numR
  rw [if_neg hne, if_pos this]
theorem numAt_long {base : Nat} {most n : Int} {l : List UInt8} {k : Nat} {c : UInt8} (h : numAt base most l k n true) (hc : l[k]? = some c) (hd : dig c < base) : numAt base most l (k + 1) n true := by
  obtain ⟨h1, _, h3⟩ := h
  refine ⟨?_, by simp, fun _ => ?_⟩
  · rw [take_snoc hc, badDig_append, h1]; simp [badDig]; exact hd
  · rcases h3 rfl with h | h
    · exact .inl h
    · right; rw [take_snoc hc]; exact accN_none_more _ _ _ _ _ h
theorem numAt_over {base : Nat} {most n : Int} {l : List UInt8} {k : Nat} {c : UInt8} (h : numAt base most l k n false) (hc : l[k]? = some c) (hd : dig c < base)
    (ho : (dig c : Int) > most ∨ n > (most - dig c) / base) : numAt base most l (k + 1) n true := by
  obtain ⟨h1, h2, _⟩ := h
  obtain ⟨_, h4, _, _⟩ := h2 rfl
  refine ⟨?_, by simp, fun _ => .inr ?_⟩
  · rw [take_snoc hc, badDig_append, h1]; simp [badDig]; exact hd
  · rw [take_snoc hc, accN_snoc, h4]
    simp only [if_pos ho]
theorem numAt_more {base : Nat} {most n : Int} {l : List UInt8} {k : Nat} {c : UInt8} (hb : 0 < base) (h : numAt base most l k n false) (hc : l[k]? = some c) (hd : dig c < base)
    (ho : ¬ ((dig c : Int) > most ∨ n > (most - dig c) / base)) : numAt base most l (k + 1) (n * base + dig c) false := by
  obtain ⟨h1, h2, _⟩ := h
  obtain ⟨h0, h4, h5, h6⟩ := h2 rfl
  have e : accN base most 0 (l.take (k + 1)) = some (n * base + dig c) := by
    rw [take_snoc hc, accN_snoc, h4]
    simp only [if_neg ho]
  refine ⟨?_, fun _ => ⟨h0, e, ?_⟩, by simp⟩
  · rw [take_snoc hc, badDig_append, h1]; simp [badDig]; exact hd
  · exact accN_bound base hb most 0 _ _ e (by omega) h0
theorem numAt_end {base : Nat} {most n : Int} {l : List UInt8} {k : Nat} {long : Bool} (h : numAt base most l k n long) (hk : l.length ≤ k) (hne : l ≠ []) :
    numR base most l = if long then (0, 12) else (n, 0) := by
  obtain ⟨h1, h2, h3⟩ := h
  rw [List.take_of_length_le hk] at h1 h2 h3
  unfold numR
  rw [if_neg hne, h1]
  cases long
  · obtain ⟨h0, h4, _, _⟩ := h2 rfl
    rw [h4]
    simp [accR]; omega
  · rcases h3 rfl with h | h
    · simp [h]
    · simp [h, accR]


set_option maxHeartbeats 4000000 in
theorem number10_any (s : ByteArray) (hs : s.size ≤ 1000000000) (most : Int) (hm1 : -9223372036854775808 ≤ most) (hm2 : most ≤ 9223372036854775807) (w : World) :
    Calls Tryz.prog 146 #[.string s, .int .i64 10, .int .i64 most] w fun e w' => e = .returned (.tuple #[.int .i64 (numR 10 most s.data.toList).1, .int .i64 (numR 10 most s.data.toList).2]) ∧ Below w.heap.size w w' := by
  have hcv := fun W S => Lib.run_convert_string_bytes (P := Tryz.prog) W 9 25 5 S Tryz.underlying9 Tryz.underlying25 Tryz.underlying5
  have hll : (lower s.data.toList).length = s.size := by simp only [lower, List.length_map]; exact data_len s
  have hix : ∀ c W, Calls Tryz.prog 164 #[.string ⟨#[48, 49, 50, 51, 52, 53, 54, 55, 56, 57]⟩, .int .u8 (lowerC c).toNat] W fun e w' => e = .returned (.int .i64 (digIx 10 c)) ∧ W = w' := by
    intro c W
    refine (Tryz.strings_IndexByte _ _ _).mono ?_
    rintro e w' ⟨rfl, rfl⟩
    refine ⟨?_, rfl⟩
    rw [← digIx_10]
    simp
  have Hix := Lib.hid hix; clear hix
  go_enter Tryz.func146, Tryz.ntmps146
  go_wp2_with (go_at_call 65; refine (Lower_any s hs _).mono ?_; rintro e w1 ⟨rfl, hb1⟩)
  clear hcv hll
  have hrow := RowAt.bytes w1 5 ⟨(lower s.data.toList).toArray⟩
  have hb2 : Below w.heap.size w (Lib.bytesWorld w1 5 ⟨(lower s.data.toList).toArray⟩) := hb1.trans ((below_bytesWorld w1 5 _).mono hb1.size)
  generalize Lib.bytesWorld w1 5 ⟨(lower s.data.toList).toArray⟩ = W at *
  generalize grownCap w1 s.size 0 5 = C at *
  generalize w1.heap.size = g at *
  have Hrow := Lib.hid hrow; clear hrow
  go_loop [8, 9, 19] (fun x b i => ∃ (k : Nat) (n : Int) (long : Bool), k ≤ s.size ∧ x = .int .i64 n ∧ b = .bool long ∧ i = .int .i64 k ∧ numAt 10 most s.data.toList k n long) (fun _ _ i => s.size - (intOf i).toNat)
  case atStart => exact ⟨0, 0, _, by omega, rfl, rfl, rfl, rfl, fun h => by have := of_decide_eq_false h; exact ⟨by omega, rfl, by omega, by omega⟩, fun h => .inl (of_decide_eq_true h)⟩
  case round =>
    obtain ⟨k, n, long, hk, rfl, rfl, rfl, hat⟩ := hrel
    by_cases hlt : k < s.size
    · obtain ⟨c, hc⟩ : ∃ c, s.data.toList[k]? = some c := ⟨_, get_data s k hlt⟩
      have hcell : W.cell? ⟨g, k, none⟩ = some (.int .u8 (lowerC c).toNat) := Hrow.out.cell (by
        rw [bytesV_get]
        show ((lower s.data.toList)[k]?).map byteV = _
        rw [lower, List.getElem?_map, hc]; rfl)
      by_cases hd : dig c < 10
      · have hix1 := Hix.out c
        have e : digIx 10 c = (dig c : Int) := by unfold digIx; rw [if_pos hd]
        rw [e] at hix1
        have Hix1 := Lib.hid hix1
        clear e hix1
        cases long
        · obtain ⟨hm0, _, hn0, hn1⟩ := hat.2.1 rfl
          by_cases ho : (dig c : Int) > most ∨ n > (most - dig c) / 10
          · have hnx := numAt_over hat hc hd ho
            have Hnx := Lib.hid hnx
            clear hnx hat hc
            by_cases hd2 : (dig c : Int) ≤ most
            · have ho2 : (most - dig c) / 10 < n := by omega
              clear ho
              generalize dig c = d at *
              go_wp2_with (go_at_call 164; refine (Hix1.out _).mono ?_; rintro e w' ⟨rfl, rfl⟩)
              go_round
              case rel => exact ⟨k + 1, n, true, by omega, rfl, rfl, by go_num, Hnx.out⟩
              case measure => simp [intOf]; omega
            · clear ho
              generalize dig c = d at *
              go_wp2_with (go_at_call 164; refine (Hix1.out _).mono ?_; rintro e w' ⟨rfl, rfl⟩)
              all_goals
                go_round
                case rel => exact ⟨k + 1, n, true, by omega, rfl, rfl, by go_num, Hnx.out⟩
                case measure => simp [intOf]; omega
          · have hnx := numAt_more (by omega) hat hc hd ho
            obtain ⟨_, _, hq0, hq1⟩ := hnx.2.1 rfl
            have Hnx := Lib.hid hnx
            have hq2 : 0 ≤ n * 10 := by omega
            clear hnx hat hc
            have ho1 : (dig c : Int) ≤ most := by omega
            have ho2 : n ≤ (most - dig c) / 10 := by omega
            have hb5 : decide ((most - dig c) / 10 < n) = false := by simp; omega
            have hb6 : decide (most < dig c) = false := by simp; omega
            clear ho
            generalize dig c = d at *
            go_wp2_with (go_at_call 164; refine (Hix1.out _).mono ?_; rintro e w' ⟨rfl, rfl⟩)
            go_round
            case rel => exact ⟨k + 1, _, false, by omega, rfl, rfl, by go_num, Hnx.out⟩
            case measure => simp [intOf]; omega
        · have hnx := numAt_long hat hc hd
          have Hnx := Lib.hid hnx
          clear hnx hat hc
          generalize dig c = d at *
          go_wp2_with (go_at_call 164; refine (Hix1.out _).mono ?_; rintro e w' ⟨rfl, rfl⟩)
          go_round
          case rel => exact ⟨k + 1, n, true, by omega, rfl, rfl, by go_num, Hnx.out⟩
          case measure => simp [intOf]; omega
      · have hix1 := Hix.out c
        have e : digIx 10 c = -1 := by unfold digIx; rw [if_neg hd]
        rw [e] at hix1
        have Hix1 := Lib.hid hix1
        have hend := numAt_bad hat hc (by omega)
        have Hend := Lib.hid hend
        clear e hix1 hend hat hc
        go_wp2_with (go_at_call 164; refine (Hix1.out _).mono ?_; rintro e w' ⟨rfl, rfl⟩)
        go_ret2
        rw [Hend.out]
        exact ⟨rfl, hb2⟩
    · by_cases hne : s.toList = []
      · have e : numR 10 most s.data.toList = (0, 10) := by rw [ByteArray.toList_eq] at hne; simp [numR, hne]
        have E := Lib.hid e
        clear e hat
        go_wp2
        go_ret2
        rw [E.out]
        exact ⟨rfl, hb2⟩
      · have hne' : s.toList.isEmpty = false := by simpa using hne
        have e := numAt_end hat (by rw [data_len]; omega) (by rw [← ByteArray.toList_eq]; exact hne)
        have E := Lib.hid e
        clear e hat hne
        cases long
        · go_wp2
          go_ret2
          rw [E.out]
          exact ⟨rfl, hb2⟩
        · go_wp2
          go_ret2
          rw [E.out]
          exact ⟨rfl, hb2⟩

set_option maxHeartbeats 4000000 in
theorem number16_any (s : ByteArray) (hs : s.size ≤ 1000000000) (most : Int) (hm1 : -9223372036854775808 ≤ most) (hm2 : most ≤ 9223372036854775807) (w : World) :
    Calls Tryz.prog 146 #[.string s, .int .i64 16, .int .i64 most] w fun e w' => e = .returned (.tuple #[.int .i64 (numR 16 most s.data.toList).1, .int .i64 (numR 16 most s.data.toList).2]) ∧ Below w.heap.size w w' := by
  have hcv := fun W S => Lib.run_convert_string_bytes (P := Tryz.prog) W 9 25 5 S Tryz.underlying9 Tryz.underlying25 Tryz.underlying5
  have hll : (lower s.data.toList).length = s.size := by simp only [lower, List.length_map]; exact data_len s
  have hix : ∀ c W, Calls Tryz.prog 164 #[.string ⟨#[48, 49, 50, 51, 52, 53, 54, 55, 56, 57, 97, 98, 99, 100, 101, 102]⟩, .int .u8 (lowerC c).toNat] W fun e w' => e = .returned (.int .i64 (digIx 16 c)) ∧ W = w' := by
    intro c W
    refine (Tryz.strings_IndexByte _ _ _).mono ?_
    rintro e w' ⟨rfl, rfl⟩
    refine ⟨?_, rfl⟩
    rw [← digIx_16]
    simp [digitsL]
  have Hix := Lib.hid hix; clear hix
  go_enter Tryz.func146, Tryz.ntmps146
  go_wp2_with (go_at_call 65; refine (Lower_any s hs _).mono ?_; rintro e w1 ⟨rfl, hb1⟩)
  clear hcv hll
  have hrow := RowAt.bytes w1 5 ⟨(lower s.data.toList).toArray⟩
  have hb2 : Below w.heap.size w (Lib.bytesWorld w1 5 ⟨(lower s.data.toList).toArray⟩) := hb1.trans ((below_bytesWorld w1 5 _).mono hb1.size)
  generalize Lib.bytesWorld w1 5 ⟨(lower s.data.toList).toArray⟩ = W at *
  generalize grownCap w1 s.size 0 5 = C at *
  generalize w1.heap.size = g at *
  have Hrow := Lib.hid hrow; clear hrow
  go_loop [8, 9, 19] (fun x b i => ∃ (k : Nat) (n : Int) (long : Bool), k ≤ s.size ∧ x = .int .i64 n ∧ b = .bool long ∧ i = .int .i64 k ∧ numAt 16 most s.data.toList k n long) (fun _ _ i => s.size - (intOf i).toNat)
  case atStart => exact ⟨0, 0, _, by omega, rfl, rfl, rfl, rfl, fun h => by have := of_decide_eq_false h; exact ⟨by omega, rfl, by omega, by omega⟩, fun h => .inl (of_decide_eq_true h)⟩
  case round =>
    obtain ⟨k, n, long, hk, rfl, rfl, rfl, hat⟩ := hrel
    by_cases hlt : k < s.size
    · obtain ⟨c, hc⟩ : ∃ c, s.data.toList[k]? = some c := ⟨_, get_data s k hlt⟩
      have hcell : W.cell? ⟨g, k, none⟩ = some (.int .u8 (lowerC c).toNat) := Hrow.out.cell (by
        rw [bytesV_get]
        show ((lower s.data.toList)[k]?).map byteV = _
        rw [lower, List.getElem?_map, hc]; rfl)
      by_cases hd : dig c < 16
      · have hix1 := Hix.out c
        have e : digIx 16 c = (dig c : Int) := by unfold digIx; rw [if_pos hd]
        rw [e] at hix1
        have Hix1 := Lib.hid hix1
        clear e hix1
        cases long
        · obtain ⟨hm0, _, hn0, hn1⟩ := hat.2.1 rfl
          by_cases ho : (dig c : Int) > most ∨ n > (most - dig c) / 16
          · have hnx := numAt_over hat hc hd ho
            have Hnx := Lib.hid hnx
            clear hnx hat hc
            by_cases hd2 : (dig c : Int) ≤ most
            · have ho2 : (most - dig c) / 16 < n := by omega
              clear ho
              generalize dig c = d at *
              go_wp2_with (go_at_call 164; refine (Hix1.out _).mono ?_; rintro e w' ⟨rfl, rfl⟩)
              go_round
              case rel => exact ⟨k + 1, n, true, by omega, rfl, rfl, by go_num, Hnx.out⟩
              case measure => simp [intOf]; omega
            · clear ho
              generalize dig c = d at *
              go_wp2_with (go_at_call 164; refine (Hix1.out _).mono ?_; rintro e w' ⟨rfl, rfl⟩)
              all_goals
                go_round
                case rel => exact ⟨k + 1, n, true, by omega, rfl, rfl, by go_num, Hnx.out⟩
                case measure => simp [intOf]; omega
          · have hnx := numAt_more (by omega) hat hc hd ho
            obtain ⟨_, _, hq0, hq1⟩ := hnx.2.1 rfl
            have Hnx := Lib.hid hnx
            have hq2 : 0 ≤ n * 16 := by omega
            clear hnx hat hc
            have ho1 : (dig c : Int) ≤ most := by omega
            have ho2 : n ≤ (most - dig c) / 16 := by omega
            have hb5 : decide ((most - dig c) / 16 < n) = false := by simp; omega
            have hb6 : decide (most < dig c) = false := by simp; omega
            clear ho
            generalize dig c = d at *
            go_wp2_with (go_at_call 164; refine (Hix1.out _).mono ?_; rintro e w' ⟨rfl, rfl⟩)
            go_round
            case rel => exact ⟨k + 1, _, false, by omega, rfl, rfl, by go_num, Hnx.out⟩
            case measure => simp [intOf]; omega
        · have hnx := numAt_long hat hc hd
          have Hnx := Lib.hid hnx
          clear hnx hat hc
          generalize dig c = d at *
          go_wp2_with (go_at_call 164; refine (Hix1.out _).mono ?_; rintro e w' ⟨rfl, rfl⟩)
          go_round
          case rel => exact ⟨k + 1, n, true, by omega, rfl, rfl, by go_num, Hnx.out⟩
          case measure => simp [intOf]; omega
      · have hix1 := Hix.out c
        have e : digIx 16 c = -1 := by unfold digIx; rw [if_neg hd]
        rw [e] at hix1
        have Hix1 := Lib.hid hix1
        have hend := numAt_bad hat hc (by omega)
        have Hend := Lib.hid hend
        clear e hix1 hend hat hc
        go_wp2_with (go_at_call 164; refine (Hix1.out _).mono ?_; rintro e w' ⟨rfl, rfl⟩)
        go_ret2
        rw [Hend.out]
        exact ⟨rfl, hb2⟩
    · by_cases hne : s.toList = []
      · have e : numR 16 most s.data.toList = (0, 10) := by rw [ByteArray.toList_eq] at hne; simp [numR, hne]
        have E := Lib.hid e
        clear e hat
        go_wp2
        go_ret2
        rw [E.out]
        exact ⟨rfl, hb2⟩
      · have hne' : s.toList.isEmpty = false := by simpa using hne
        have e := numAt_end hat (by rw [data_len]; omega) (by rw [← ByteArray.toList_eq]; exact hne)
        have E := Lib.hid e
        clear e hat hne
        cases long
        · go_wp2
          go_ret2
          rw [E.out]
          exact ⟨rfl, hb2⟩
        · go_wp2
          go_ret2
          rw [E.out]
          exact ⟨rfl, hb2⟩
end Go.Proofs.YtniiadhhefgmcaaGreatDoor

/- Walks of layer 1: numbers by the document's answer, two lists held against each other. No condition but that lengths are within bounds. -/
namespace Go.Proofs.YtniiadhhefgmcaaGreatDoor
open Go.RowKit IH
set_option maxRecDepth 100000

theorem Number_any (s : ByteArray) (hs : s.size ≤ 1000000000) (most : Int) (hm1 : -9223372036854775808 ≤ most) (hm2 : most ≤ 9223372036854775807) (w : World) :
    Calls Tryz.prog 135 #[.string s, .int .i64 most] w fun e w' => e = .returned (.tuple #[.int .i64 (numR 10 most s.data.toList).1, .int .i64 (numR 10 most s.data.toList).2]) ∧ Below w.heap.size w w' := by
  go_enter Tryz.func135, Tryz.ntmps135
  go_wp2_with (go_at_call 146; refine (number10_any s hs most hm1 hm2 _).mono ?_; rintro e w1 ⟨rfl, hb1⟩)
  go_ret2
  exact ⟨rfl, hb1⟩
theorem Hex_any (s : ByteArray) (hs : s.size ≤ 1000000000) (most : Int) (hm1 : -9223372036854775808 ≤ most) (hm2 : most ≤ 9223372036854775807) (w : World) :
    Calls Tryz.prog 196 #[.string s, .int .i64 most] w fun e w' => e = .returned (.tuple #[.int .i64 (numR 16 most s.data.toList).1, .int .i64 (numR 16 most s.data.toList).2]) ∧ Below w.heap.size w w' := by
  go_enter Tryz.func196, Tryz.ntmps196
  go_wp2_with (go_at_call 146; refine (number16_any s hs most hm1 hm2 _).mono ?_; rintro e w1 ⟨rfl, hb1⟩)
  go_ret2
  exact ⟨rfl, hb1⟩

end Go.Proofs.YtniiadhhefgmcaaGreatDoor

