/- Walk of date.Parse: a text's moment. Condition: the text is shorter than 10^9 octets; the world's shape. -/
import Derived.Test.YtpmidmdodjgeeaaDoorDat11
namespace Go.Proofs.YtpmidmdodjgeeaaDoor
open Go.RowKit IH
set_option maxRecDepth 100000
theorem parts_any (s : ByteArray) (hs : s.size ≤ 1000000000) (w : World) (hsh : w.ShapedOpen Tryd.prog) :
    Calls Tryd.prog 54 #[.string s] w fun e w' => PartsRes (partsL s.data.toList) e ∧ Below w.heap.size w w' := by
  by_cases h4 : (pieces 32 s.data.toList).length = 4
  · match hp : pieces 32 s.data.toList, h4 with
    | [a, b, c, d], _ => exact parts4 s hs a b c d hp w hsh
  · by_cases h5 : (pieces 32 s.data.toList).length = 5
    · match hp : pieces 32 s.data.toList, h5 with
      | [a, b, c, d, e], _ => exact parts5 s hs a b c d e hp w hsh
    · by_cases h6 : (pieces 32 s.data.toList).length = 6
      · match hp : pieces 32 s.data.toList, h6 with
        | [a, b, c, d, e, f], _ => exact parts6 s hs a b c d e f hp w hsh
      · exact parts0 s hs h4 h5 h6 w hsh

set_option maxHeartbeats 4000000 in
theorem Parse_any (s : ByteArray) (hs : s.size ≤ 1000000000) (w : World) (hsh : w.ShapedOpen Tryd.prog) :
    Calls Tryd.prog 31 #[.string s] w fun e w' => e = .returned (.tuple #[.int .i64 (parseL s.data.toList).1, .int .i64 (parseL s.data.toList).2]) ∧ Below w.heap.size w w' := by
  have PA := parts_any s hs w hsh
  cases hp : partsL s.data.toList with
  | none =>
    have e1 : parseL s.data.toList = (0, 10) := by unfold parseL; rw [hp]
    rw [e1]
    rw [hp] at PA
    replace PA := Lib.hid PA
    clear hp e1
    go_enter Tryd.func31, Tryd.ntmps31
    go_wp2_with (go_at_call 54; refine PA.out.mono ?_; rintro e w2 ⟨⟨y, m, d, h, mi, se, rfl⟩, hb2⟩; simp only [civV])
    go_ret2
    exact ⟨rfl, hb2.alloc hb2.size _⟩
  | some kc =>
    obtain ⟨k, q⟩ := kc
    obtain ⟨hk, D, M, Y, T, ht⟩ := partsL_inv hp
    obtain ⟨hM, hmod, hcy, t0, t1, t2, t3, t4, t5⟩ := tryDT_inv ht
    have hyb := hM.year
    obtain ⟨hm1, hm2, hd1, hd2, _⟩ := hM.civ
    have hml := mlen_bd q.1.1 q.1.2.1
    have JO := joined_any q.1.1 q.1.2.1 q.1.2.2 q.2.1 q.2.2.1 q.2.2.2 0 hyb.1 hyb.2 hm1 hm2 hd1 (by omega) t0 (by omega) t2 (by omega) t4 (by omega)
    have ej : joinedAt ((q.1.1, q.1.2.1, q.1.2.2), (q.2.1, q.2.2.1, q.2.2.2)) = joinedAt q := rfl
    rw [ej] at JO
    have SP := split_at hM
    have FO := forms_at hM
    have ep : parseL s.data.toList = if formOf k (joinedAt q) q.1.1 q.1.2.1 q.1.2.2 = s.data.toList then (joinedAt q, 0) else (0, 10) := by unfold parseL; rw [hp]
    rw [ep]
    rw [hp] at PA
    clear hp ep ht hcy
    have hat0 := hM.h0
    have hat1 := hM.h1
    unfold civV at JO SP FO
    obtain ⟨⟨y, m, d⟩, h, mi, se⟩ := q
    simp only at *
    generalize joinedAt ((y, m, d), h, mi, se) = AT at *
    have hF : ∀ j, formOf j AT y m d = s.data.toList ↔ (⟨(formOf j AT y m d).toArray⟩ : ByteArray) = s := fun j => ⟨fun e => (bytes_eq e.symm).symm, fun e => by rw [← e]⟩
    simp only [hF]
    generalize AT % 86400 / 3600 = x1 at *
    generalize AT % 86400 / 60 % 60 = x2 at *
    generalize AT % 86400 % 60 = x3 at *
    generalize AT / 86400 % 7 = x4 at *
    replace PA := Lib.hid PA
    replace JO := Lib.hid JO
    replace SP := Lib.hid SP
    clear hF hM hmod hyb
    rcases hk with rfl | rfl | rfl
    all_goals
      generalize (⟨(formOf 0 AT y m d).toArray⟩ : ByteArray) = F0 at *
      generalize (⟨(formOf 1 AT y m d).toArray⟩ : ByteArray) = F1 at *
      generalize (⟨(formOf 2 AT y m d).toArray⟩ : ByteArray) = F2 at *
      replace FO := Lib.hid FO
      have i0 := fun w => (idx3 F0 F1 F2 w).1
      have i1 := fun w => (idx3 F0 F1 F2 w).2.1
      have i2 := fun w => (idx3 F0 F1 F2 w).2.2
    · by_cases hf : F0 = s
      · have hb1 : (F0.toList == s.toList) = true := by rw [str_eq]; exact decide_eq_true hf
        have hb2 : (F0.toList != s.toList) = false := by rw [bne, hb1]; rfl
        rw [if_pos hf]
        clear hf
        go_enter Tryd.func31, Tryd.ntmps31
        go_wp2_with (first
          | (go_at_call 54; refine PA.out.mono ?_; rintro e w2 ⟨hres, hb2⟩; obtain rfl := (show e = _ from hres); simp only [civV]; have B2 := Lib.hid (hb2.alloc hb2.size (.cells #[.int .i64 y, .int .i64 m, .int .i64 d, .int .i64 h, .int .i64 mi, .int .i64 se, .int .i64 0] 83)); clear hb2)
          | (go_at_call 55; (with_reducible refine (JO.out _).mono ?_); rintro e w3 ⟨rfl, hb3⟩; have B3 := Lib.hid (below_step B2.out hb3); clear hb3)
          | (go_at_call 56; (with_reducible refine (SP.out _).mono ?_); rintro e w4 ⟨rfl, hb4⟩; have B4 := Lib.hid (below_step B3.out hb4); clear hb4)
          | (go_at_call 57; (with_reducible refine (FO.out _).mono ?_); rintro e w5 ⟨rfl, hb5⟩; have B5 := Lib.hid (below_step B4.out hb5); clear hb5))
        go_ret2
        exact ⟨rfl, B5.out⟩
      · have hb1 : (F0.toList == s.toList) = false := by rw [str_eq]; exact decide_eq_false hf
        have hb2 : (F0.toList != s.toList) = true := by rw [bne, hb1]; rfl
        rw [if_neg hf]
        clear hf
        go_enter Tryd.func31, Tryd.ntmps31
        go_wp2_with (first
          | (go_at_call 54; refine PA.out.mono ?_; rintro e w2 ⟨hres, hb2⟩; obtain rfl := (show e = _ from hres); simp only [civV]; have B2 := Lib.hid (hb2.alloc hb2.size (.cells #[.int .i64 y, .int .i64 m, .int .i64 d, .int .i64 h, .int .i64 mi, .int .i64 se, .int .i64 0] 83)); clear hb2)
          | (go_at_call 55; (with_reducible refine (JO.out _).mono ?_); rintro e w3 ⟨rfl, hb3⟩; have B3 := Lib.hid (below_step B2.out hb3); clear hb3)
          | (go_at_call 56; (with_reducible refine (SP.out _).mono ?_); rintro e w4 ⟨rfl, hb4⟩; have B4 := Lib.hid (below_step B3.out hb4); clear hb4)
          | (go_at_call 57; (with_reducible refine (FO.out _).mono ?_); rintro e w5 ⟨rfl, hb5⟩; have B5 := Lib.hid (below_step B4.out hb5); clear hb5))
        go_ret2
        exact ⟨rfl, B5.out⟩
    · by_cases hf : F1 = s
      · have hb1 : (F1.toList == s.toList) = true := by rw [str_eq]; exact decide_eq_true hf
        have hb2 : (F1.toList != s.toList) = false := by rw [bne, hb1]; rfl
        rw [if_pos hf]
        clear hf
        go_enter Tryd.func31, Tryd.ntmps31
        go_wp2_with (first
          | (go_at_call 54; refine PA.out.mono ?_; rintro e w2 ⟨hres, hb2⟩; obtain rfl := (show e = _ from hres); simp only [civV]; have B2 := Lib.hid (hb2.alloc hb2.size (.cells #[.int .i64 y, .int .i64 m, .int .i64 d, .int .i64 h, .int .i64 mi, .int .i64 se, .int .i64 0] 83)); clear hb2)
          | (go_at_call 55; (with_reducible refine (JO.out _).mono ?_); rintro e w3 ⟨rfl, hb3⟩; have B3 := Lib.hid (below_step B2.out hb3); clear hb3)
          | (go_at_call 56; (with_reducible refine (SP.out _).mono ?_); rintro e w4 ⟨rfl, hb4⟩; have B4 := Lib.hid (below_step B3.out hb4); clear hb4)
          | (go_at_call 57; (with_reducible refine (FO.out _).mono ?_); rintro e w5 ⟨rfl, hb5⟩; have B5 := Lib.hid (below_step B4.out hb5); clear hb5))
        go_ret2
        exact ⟨rfl, B5.out⟩
      · have hb1 : (F1.toList == s.toList) = false := by rw [str_eq]; exact decide_eq_false hf
        have hb2 : (F1.toList != s.toList) = true := by rw [bne, hb1]; rfl
        rw [if_neg hf]
        clear hf
        go_enter Tryd.func31, Tryd.ntmps31
        go_wp2_with (first
          | (go_at_call 54; refine PA.out.mono ?_; rintro e w2 ⟨hres, hb2⟩; obtain rfl := (show e = _ from hres); simp only [civV]; have B2 := Lib.hid (hb2.alloc hb2.size (.cells #[.int .i64 y, .int .i64 m, .int .i64 d, .int .i64 h, .int .i64 mi, .int .i64 se, .int .i64 0] 83)); clear hb2)
          | (go_at_call 55; (with_reducible refine (JO.out _).mono ?_); rintro e w3 ⟨rfl, hb3⟩; have B3 := Lib.hid (below_step B2.out hb3); clear hb3)
          | (go_at_call 56; (with_reducible refine (SP.out _).mono ?_); rintro e w4 ⟨rfl, hb4⟩; have B4 := Lib.hid (below_step B3.out hb4); clear hb4)
          | (go_at_call 57; (with_reducible refine (FO.out _).mono ?_); rintro e w5 ⟨rfl, hb5⟩; have B5 := Lib.hid (below_step B4.out hb5); clear hb5))
        go_ret2
        exact ⟨rfl, B5.out⟩
    · by_cases hf : F2 = s
      · have hb1 : (F2.toList == s.toList) = true := by rw [str_eq]; exact decide_eq_true hf
        have hb2 : (F2.toList != s.toList) = false := by rw [bne, hb1]; rfl
        rw [if_pos hf]
        clear hf
        go_enter Tryd.func31, Tryd.ntmps31
        go_wp2_with (first
          | (go_at_call 54; refine PA.out.mono ?_; rintro e w2 ⟨hres, hb2⟩; obtain rfl := (show e = _ from hres); simp only [civV]; have B2 := Lib.hid (hb2.alloc hb2.size (.cells #[.int .i64 y, .int .i64 m, .int .i64 d, .int .i64 h, .int .i64 mi, .int .i64 se, .int .i64 0] 83)); clear hb2)
          | (go_at_call 55; (with_reducible refine (JO.out _).mono ?_); rintro e w3 ⟨rfl, hb3⟩; have B3 := Lib.hid (below_step B2.out hb3); clear hb3)
          | (go_at_call 56; (with_reducible refine (SP.out _).mono ?_); rintro e w4 ⟨rfl, hb4⟩; have B4 := Lib.hid (below_step B3.out hb4); clear hb4)
          | (go_at_call 57; (with_reducible refine (FO.out _).mono ?_); rintro e w5 ⟨rfl, hb5⟩; have B5 := Lib.hid (below_step B4.out hb5); clear hb5))
        go_ret2
        exact ⟨rfl, B5.out⟩
      · have hb1 : (F2.toList == s.toList) = false := by rw [str_eq]; exact decide_eq_false hf
        have hb2 : (F2.toList != s.toList) = true := by rw [bne, hb1]; rfl
        rw [if_neg hf]
        clear hf
        go_enter Tryd.func31, Tryd.ntmps31
        go_wp2_with (first
          | (go_at_call 54; refine PA.out.mono ?_; rintro e w2 ⟨hres, hb2⟩; obtain rfl := (show e = _ from hres); simp only [civV]; have B2 := Lib.hid (hb2.alloc hb2.size (.cells #[.int .i64 y, .int .i64 m, .int .i64 d, .int .i64 h, .int .i64 mi, .int .i64 se, .int .i64 0] 83)); clear hb2)
          | (go_at_call 55; (with_reducible refine (JO.out _).mono ?_); rintro e w3 ⟨rfl, hb3⟩; have B3 := Lib.hid (below_step B2.out hb3); clear hb3)
          | (go_at_call 56; (with_reducible refine (SP.out _).mono ?_); rintro e w4 ⟨rfl, hb4⟩; have B4 := Lib.hid (below_step B3.out hb4); clear hb4)
          | (go_at_call 57; (with_reducible refine (FO.out _).mono ?_); rintro e w5 ⟨rfl, hb5⟩; have B5 := Lib.hid (below_step B4.out hb5); clear hb5))
        go_ret2
        exact ⟨rfl, B5.out⟩
end Go.Proofs.YtpmidmdodjgeeaaDoor
