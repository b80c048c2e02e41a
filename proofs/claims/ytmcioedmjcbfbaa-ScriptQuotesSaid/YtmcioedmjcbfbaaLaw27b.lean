/- Layer 27's laws: ScriptQuotes, walked. No condition. -/
import Derived.Test.YtmcioedmjcbfbaaLaw27a
import Derived.Test.YtmcioedmjcbfbaaKt
import Derived.Test.YtmcioedmjcbfbaaScr5
import Derived.Test.YtmcioedmjcbfbaaScr6
namespace Go.Proofs.Ytmcioedmjcbfbaa
open Go.RowKit IH
set_option maxRecDepth 100000
set_option maxHeartbeats 8000000 in
theorem squotes_walk (w : World) (A : Option Addr) (n c : Nat) (L : List UInt8) (hin : SliceIn w w.heap.size 1 A n c (bytesV L)) (s : ByteArray) (_hs : s.size ≤ 9223372036854775807) :
    Calls Try.prog 7 #[.slice A n c, .string s] w fun e w' => e = .returned (.bool true) ∧ Below w.heap.size w w' := by
  have AW := Lib.hid (fun w => awake27_any w)
  have Hin := Lib.hid hin
  have hL : L.length = n := by have := hin.1; rw [bytesV_length, Nat.mul_one] at this; exact this
  clear hin
  by_cases hbig : 500 < n ∨ 1000 < s.size
  · clear hL
    by_cases h5 : 500 < n
    · have h5I : (500 : Int) < (n : Int) := by omega
      clear hbig
      go_enter Try.func7, Try.ntmps7
      go_wp2_with fail
      refine (AW.out _).mono ?_
      rintro e w2 ⟨rfl, hb2⟩
      have B2 := Lib.hid hb2; clear hb2
      go_wp2_with fail
      refine (AW.out _).mono ?_
      rintro e w3 ⟨rfl, hb3⟩
      have B3 := Lib.hid (below_step B2.out hb3); clear hb3
      go_wp2
      go_ret
      exact ⟨rfl, B3.out⟩
    · have h5I : (n : Int) ≤ (500 : Int) := by omega
      have h6 : 1000 < s.size := by omega
      have h6I : (1000 : Int) < (s.size : Int) := by omega
      clear hbig
      go_enter Try.func7, Try.ntmps7
      go_wp2_with fail
      refine (AW.out _).mono ?_
      rintro e w2 ⟨rfl, hb2⟩
      have B2 := Lib.hid hb2; clear hb2
      go_wp2_with fail
      refine (AW.out _).mono ?_
      rintro e w3 ⟨rfl, hb3⟩
      have B3 := Lib.hid (below_step B2.out hb3); clear hb3
      go_wp2
      go_ret
      exact ⟨rfl, B3.out⟩
  · have h5I : (n : Int) ≤ (500 : Int) := by omega
    have h6I : (s.size : Int) ≤ (1000 : Int) := by omega
    have hn5 : n ≤ 500 := by omega
    have hs6 : s.size ≤ 1000 := by omega
    obtain ⟨Q, hQ⟩ : ∃ Q : ByteArray, (⟨(quote27 L).toArray⟩ : ByteArray) = Q := ⟨_, rfl⟩
    have hQl : Q.data.toList = quote27 L := by rw [← hQ]
    have hQz : Q.size = (quote27 L).length := by rw [← data_len, hQl]
    have hqb := quote_length L
    have hQs : Q.size ≤ 2002 := by omega
    have hdat : (Q ++ s).data.toList = quote27 L ++ s.data.toList := by rw [append_data, hQl]
    have hQS : (Q ++ s).size ≤ 1000000000 := by rw [← data_len, hdat, List.length_append, data_len]; omega
    have U1 := fun w => Unquote27_any (Q ++ s) hQS w
    rw [hdat, unquote27_quote] at U1
    simp only at U1
    rw [hL, ← hQz] at U1
    have U2 := fun w => Unquote27_any s (by omega) w
    have U3 := fun w => refUnquote27_any s (by omega) w
    obtain ⟨Y, hY⟩ : ∃ Y, (unquote27 s.data.toList).1 = Y := ⟨_, rfl⟩
    obtain ⟨m, hm⟩ : ∃ Y, (unquote27 s.data.toList).2.1 = Y := ⟨_, rfl⟩
    obtain ⟨f, hf⟩ : ∃ Y, (unquote27 s.data.toList).2.2 = Y := ⟨_, rfl⟩
    rw [hY, hm, hf] at U2 U3
    have HQ := Lib.hid hQ
    replace U1 := Lib.hid U1
    replace U2 := Lib.hid U2
    replace U3 := Lib.hid U3
    clear hbig hQ hQl hQz hqb hdat hQS hY hm hf hL
    go_enter Try.func7, Try.ntmps7
    go_upto_region 3 with (go_at_call 22; refine (AW.out _).mono ?_; rintro e w2 ⟨rfl, hb2⟩; have B2 := Lib.hid hb2; clear hb2)
    have hown := World.ownsRow_lit (base := w2.heap.size) (e := 5) (size := 1) w2 #[] 0 (Nat.le_refl _) (by simp [maxLen]) rfl
    have Hown := Lib.hid hown
    have Hin2 := Lib.hid ((Hin.out.below B2.out).alloc B2.out.size (.cells #[] 5))
    clear hown
    go_upto_region 7 with (first
      | (at_builtin; refine wpList_appN u8_ty rfl _ _ rfl w2.heap.size _ 0 [] rfl Hown.out (by intro h; cases h) w.heap.size A n c (bytesV L) rfl Hin2.out (bytesV_one L) (by omega) (by simp only [maxLen]; omega) (by simp) ?_; intro g cap w3 hown' hgr; rw [Nat.zero_add, List.nil_append] at hown'; simp only [Nat.zero_add]; have B3 := Lib.hid ((B2.out.alloc B2.out.size (.cells #[] 5)).grown hgr (by have := B2.out.size; simp; omega) (fun q hq => by have := (Hown.out.lt q hq).1; have := B2.out.size; omega)); have QA := Quote_any _ n cap L w3 (SliceIn.of_own hown') (by omega); rw [HQ.out] at QA; have HQA := Lib.hid QA; clear QA hown' hgr)
      | (go_at_call 29; refine HQA.out.mono ?_; rintro e w4 ⟨rfl, hb4⟩; have B4 := Lib.hid (below_step B3.out hb4); clear hb4)
      | (go_at_call_of 30 (Value.string (Q ++ s)); refine (U1.out _).mono ?_; rintro e w5 ⟨v5, rfl, ho5, hb5⟩; have B5 := Lib.hid (below_step B4.out hb5); obtain ⟨A5, c5, rfl, hs5⟩ := own_slice ho5; have S5 := Lib.hid hs5; clear ho5 hs5 hb5)
      | (go_at_call_of 30 (Value.string s); refine (U2.out _).mono ?_; rintro e w6 ⟨v6, rfl, ho6, hb6⟩; have B6 := Lib.hid (below_step B5.out hb6); have S6 := Lib.hid ((S5.out.below hb6).more hb6.size); obtain ⟨A6, c6, rfl, hs6⟩ := own_slice ho6; have T6 := Lib.hid hs6; clear ho6 hs6 hb6)
      | (go_at_call 31; refine (U3.out _).mono ?_; rintro e w7 ⟨v7, rfl, ho7, hb7⟩; have B7 := Lib.hid (below_step B6.out hb7); have S7 := Lib.hid ((S6.out.below hb7).more hb7.size); have T7 := Lib.hid ((T6.out.below hb7).more hb7.size); obtain ⟨A7, c7, rfl, hs7⟩ := own_slice ho7; have V7 := Lib.hid hs7; clear ho7 hs7 hb7))
    have RQ := refQuote_any A n c L w7 ((Hin.out.below B7.out).more B7.out.size) (by omega)
    rw [HQ.out] at RQ
    replace RQ := Lib.hid RQ
    go_wp2_with (go_at_call 32; refine RQ.out.mono ?_; rintro e w8 ⟨rfl, hb8⟩; have B8 := Lib.hid (below_step B7.out hb8); have q1 := run_string_of (P := Try.prog) (S7.out.below hb8) 47 9 5 Try.underlying47 Try.underlying5 Try.underlying9; have q2 := run_string_of (P := Try.prog) (Hin.out.below B8.out) 47 9 5 Try.underlying47 Try.underlying5 Try.underlying9; have q3 := run_string_of (P := Try.prog) (T7.out.below hb8) 47 9 5 Try.underlying47 Try.underlying5 Try.underlying9; have q4 := run_string_of (P := Try.prog) (V7.out.below hb8) 47 9 5 Try.underlying47 Try.underlying5 Try.underlying9; clear hb8)
    go_ret
    exact ⟨ret_bool (by simp), B8.out⟩
end Go.Proofs.Ytmcioedmjcbfbaa
