/- Walk of layer 5: has a reference no scheme? No condition but that lengths are within bounds. -/
import Derived.Test.YtaddefjkjlkjnaaDoorTar16
namespace Go.Proofs.YtaddefjkjlkjnaaDoor
open Go.RowKit IH
set_option maxRecDepth 100000
theorem first_ix2 (c : UInt8) (l : List UInt8) : (Lib.indexByte l c = -1 ∧ firstAt c l = l.length) ∨ (Lib.indexByte l c = (firstAt c l : Nat) ∧ firstAt c l < l.length) := by
  by_cases hm : c ∈ l
  · obtain ⟨a, b, h1, ha⟩ := List.eq_append_cons_of_mem hm
    have h2 : ∀ x ∈ a, x ≠ c := fun x hx e => ha (e ▸ hx)
    right
    unfold firstAt
    rw [h1, indexByte_mid c a b h2, (until_eq (d := c) (x := a) (r := b) h2).1]
    exact ⟨rfl, by simp⟩
  · have hno : ∀ x ∈ l, x ≠ c := fun x hx e => hm (e ▸ hx)
    left
    unfold firstAt
    rw [indexByte_no c l hno, (until_all hno).1]
    exact ⟨rfl, rfl⟩
theorem schemed_eq (l : List UInt8) : (!schemed l) = (decide (firstAt 58 l = l.length) || decide ((l.takeWhile offC).length < firstAt 58 l)) := by
  induction l with
  | nil => rfl
  | cons c l ih =>
    unfold schemed firstAt at ih ⊢
    by_cases h0 : c = 58
    · subst h0; simp [offC]
    · have e58 : (c != 58) = true := by simpa using h0
      rw [List.takeWhile_cons (p := fun x => x != 58), if_pos e58]
      by_cases h1 : offC c = true
      · rw [List.takeWhile_cons, if_pos h1, List.any_cons, show (c == 58) = false by simpa using h0, Bool.false_or, ih]
        simp only [List.length_cons]
        congr 1
        · rw [decide_eq_decide]; omega
        · rw [decide_eq_decide]; omega
      · rw [List.takeWhile_cons, if_neg h1]
        simp
set_option maxHeartbeats 8000000 in
theorem relative_any (R : ByteArray) (_hR : R.size ≤ 1000000000) (w : World) :
    Calls Tryd.prog 99 #[.string R] w fun e w' => e = .returned (.bool (!schemed R.data.toList)) ∧ Below w.heap.size w w' := by
  obtain ⟨b, hb⟩ : ∃ b, (!schemed R.data.toList) = b := ⟨_, rfl⟩
  have hb2 := hb
  rw [schemed_eq] at hb2
  rw [hb]
  clear hb
  obtain ⟨N, hN⟩ : ∃ N, (R.data.toList.takeWhile offC).length = N := ⟨_, rfl⟩
  obtain ⟨f47, hf47⟩ : ∃ f, firstAt 47 R.data.toList = f := ⟨_, rfl⟩
  obtain ⟨f63, hf63⟩ : ∃ f, firstAt 63 R.data.toList = f := ⟨_, rfl⟩
  obtain ⟨f58, hf58⟩ : ∃ f, firstAt 58 R.data.toList = f := ⟨_, rfl⟩
  have hNm : N = min f47 f63 := by rw [← hN, first_both, hf47, hf63]
  have h47 := first_ix 47 R.data.toList
  have h63 := first_ix 63 R.data.toList
  have h58 := first_ix2 58 R.data.toList
  have l47 := first_le 47 R.data.toList
  have l63 := first_le 63 R.data.toList
  rw [hf47, data_len] at h47 l47
  rw [hf63, data_len] at h63 l63
  rw [hf58, data_len] at h58
  rw [hN, hf58, data_len] at hb2
  have I47 := fun w => IndexByte_t R 47 w
  have I63 := fun w => IndexByte_t R 63 w
  have I58 := fun w => IndexByte_t R 58 w
  obtain ⟨x47, hx47⟩ : ∃ x, Lib.indexByte R.data.toList 47 = x := ⟨_, rfl⟩
  obtain ⟨x63, hx63⟩ : ∃ x, Lib.indexByte R.data.toList 63 = x := ⟨_, rfl⟩
  obtain ⟨x58, hx58⟩ : ∃ x, Lib.indexByte R.data.toList 58 = x := ⟨_, rfl⟩
  rw [hx47] at h47 I47
  rw [hx63] at h63 I63
  rw [hx58] at h58 I58
  rw [show (((47 : UInt8).toNat : Nat) : Int) = 47 from rfl] at I47
  rw [show (((63 : UInt8).toNat : Nat) : Int) = 63 from rfl] at I63
  rw [show (((58 : UInt8).toNat : Nat) : Int) = 58 from rfl] at I58
  replace I47 := Lib.hid I47
  replace I63 := Lib.hid I63
  replace I58 := Lib.hid I58
  have H47 := Lib.hid h47
  have H63 := Lib.hid h63
  have H58 := Lib.hid h58
  have HNM := Lib.hid hNm
  have HB := Lib.hid hb2
  clear hN hf47 hf63 hf58 hx47 hx63 hx58 h47 h63 h58 hNm hb2
  obtain ⟨g5, hg5⟩ : ∃ g, w.heap.size = g := ⟨_, rfl⟩
  obtain ⟨w4, hw4⟩ : ∃ W, w.alloc (.cells #[.int .u8 47, .int .u8 63] 5) = W := ⟨_, rfl⟩
  have R4 : Hid (Below g5 w w4) := Lib.hid (by rw [← hw4, ← hg5]; exact (Below.refl _ _).alloc (Nat.le_refl _) _)
  have A4 : Hid (RowAt w4 g5 5 [.int .u8 47, .int .u8 63]) := Lib.hid (by rw [← hw4, ← hg5]; exact RowAt.new w _ [.int .u8 47, .int .u8 63])
  rw [hg5]
  have y0 := A4.out.cell (j := 0) rfl
  have y1 := A4.out.cell (j := 1) rfl
  go_enter Tryd.func99, Tryd.ntmps99
  go_upto_region 4 with (go_at_call 92; refine (I58.out _).mono ?_; rintro e w3 ⟨rfl, rfl⟩)
  go_wp2_with fail
  go_loopw [4, 14] (fun nv iv wr => wr = w4 ∧ ((nv = .int .i64 R.size ∧ iv = .int .i64 0) ∨ (nv = .int .i64 f47 ∧ iv = .int .i64 1) ∨ (nv = .int .i64 N ∧ iv = .int .i64 2))) (fun _ iv _ => 2 - (intOf iv).toNat)
  case atStart => exact ⟨by first | rfl | exact hw4 | trivial, .inl ⟨rfl, rfl⟩⟩
  case round =>
    obtain ⟨rfl, hor⟩ := hrel
    rcases hor with ⟨rfl, rfl⟩ | ⟨rfl, rfl⟩ | ⟨rfl, rfl⟩
    · rcases H47.out with ⟨hx, hf⟩ | hx
      · subst hx
        have hf' := Lib.hid hf
        go_wp2_with (go_at_call 92; refine (I47.out _).mono ?_; rintro e w5 ⟨rfl, rfl⟩)
        go_roundw
        case rel => exact ⟨by first | rfl | trivial, .inr (.inl ⟨by rw [hf'.out], by go_num⟩)⟩
        case measure => simp [intOf]
      · subst hx
        have hm : min (R.size : Int) (f47 : Int) = (f47 : Int) := by omega
        have h0 : (0 : Int) ≤ (f47 : Int) := by omega
        go_wp2_with (go_at_call 92; refine (I47.out _).mono ?_; rintro e w5 ⟨rfl, rfl⟩)
        go_roundw
        case rel => exact ⟨by first | rfl | trivial, .inr (.inl ⟨by first | rfl | simp [hm], by go_num⟩)⟩
        case measure => simp [intOf]
    · rcases H63.out with ⟨hx, hf⟩ | hx
      · subst hx
        have hf' : Hid (f47 = N) := Lib.hid (by have := HNM.out; omega)
        go_wp2_with (go_at_call 92; refine (I63.out _).mono ?_; rintro e w5 ⟨rfl, rfl⟩)
        go_roundw
        case rel => exact ⟨by first | rfl | trivial, .inr (.inr ⟨by rw [hf'.out], by go_num⟩)⟩
        case measure => simp [intOf]
      · subst hx
        have hm : min (f47 : Int) (f63 : Int) = (N : Int) := by have := HNM.out; omega
        have h0 : (0 : Int) ≤ (f63 : Int) := by omega
        go_wp2_with (go_at_call 92; refine (I63.out _).mono ?_; rintro e w5 ⟨rfl, rfl⟩)
        go_roundw
        case rel => exact ⟨by first | rfl | trivial, .inr (.inr ⟨by first | rfl | simp [hm], by go_num⟩)⟩
        case measure => simp [intOf]
    · rcases H58.out with ⟨hx, hf⟩ | ⟨hx, hf⟩
      · subst hx
        have HB1 : Hid (b = true) := Lib.hid (by rw [← HB.out, decide_eq_true hf]; rfl)
        go_wp2_with fail
        go_ret
        exact ⟨by rw [HB1.out]; first | rfl | exact ret_bool (by simp), R4.out⟩
      · subst hx
        have HB1 : Hid (b = decide ((N : Int) < (f58 : Int))) := Lib.hid (by rw [← HB.out, decide_eq_false (by omega), Bool.false_or, decide_eq_decide]; omega)
        have h0 : ¬ ((f58 : Int) < 0) := by omega
        go_wp2_with fail
        go_ret
        exact ⟨by rw [HB1.out]; first | rfl | exact ret_bool (by simp), R4.out⟩
end Go.Proofs.YtaddefjkjlkjnaaDoor
