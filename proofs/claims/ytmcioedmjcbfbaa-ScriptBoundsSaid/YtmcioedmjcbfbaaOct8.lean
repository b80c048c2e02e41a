/- Walks of layer 1: numbers by the document's answer, two lists held against each other. No condition but that lengths are within bounds. -/
import Derived.Test.YtmcioedmjcbfbaaOct7
import Derived.Test.YtmcioedmjcbfbaaOct5
namespace Go.Proofs.Ytmcioedmjcbfbaa
open Go.RowKit IH
set_option maxRecDepth 100000

theorem Number_any (s : ByteArray) (hs : s.size ≤ 1000000000) (most : Int) (hm1 : -9223372036854775808 ≤ most) (hm2 : most ≤ 9223372036854775807) (w : World) :
    Calls Try.prog 118 #[.string s, .int .i64 most] w fun e w' => e = .returned (.tuple #[.int .i64 (numR 10 most s.data.toList).1, .int .i64 (numR 10 most s.data.toList).2]) ∧ Below w.heap.size w w' := by
  go_enter Try.func118, Try.ntmps118
  go_wp2_with (go_at_call 89; refine (number10_any s hs most hm1 hm2 _).mono ?_; rintro e w1 ⟨rfl, hb1⟩)
  go_ret2
  exact ⟨rfl, hb1⟩
theorem Hex_any (s : ByteArray) (hs : s.size ≤ 1000000000) (most : Int) (hm1 : -9223372036854775808 ≤ most) (hm2 : most ≤ 9223372036854775807) (w : World) :
    Calls Try.prog 67 #[.string s, .int .i64 most] w fun e w' => e = .returned (.tuple #[.int .i64 (numR 16 most s.data.toList).1, .int .i64 (numR 16 most s.data.toList).2]) ∧ Below w.heap.size w w' := by
  go_enter Try.func67, Try.ntmps67
  go_wp2_with (go_at_call 89; refine (number16_any s hs most hm1 hm2 _).mono ?_; rintro e w1 ⟨rfl, hb1⟩)
  go_ret2
  exact ⟨rfl, hb1⟩


def sameL (a b : List (List UInt8)) : Bool := decide (a = b)
theorem sameL_len {a b : List (List UInt8)} (h : a.length ≠ b.length) : sameL a b = false := by
  unfold sameL; rw [decide_eq_false_iff_not]; rintro rfl; exact h rfl
theorem sameL_ne {a b : List (List UInt8)} {k : Nat} {x y : List UInt8} (ha : a[k]? = some x) (hb : b[k]? = some y) (h : x ≠ y) : sameL a b = false := by
  unfold sameL; rw [decide_eq_false_iff_not]; rintro rfl; rw [ha] at hb; exact h (Option.some.inj hb)
theorem sameL_all {a b : List (List UInt8)} (hl : a.length = b.length) (h : a.take b.length = b.take b.length) : sameL a b = true := by
  unfold sameL
  rw [decide_eq_true_iff]
  rw [List.take_of_length_le (by omega), List.take_of_length_le (by omega)] at h
  exact h

end Go.Proofs.Ytmcioedmjcbfbaa
