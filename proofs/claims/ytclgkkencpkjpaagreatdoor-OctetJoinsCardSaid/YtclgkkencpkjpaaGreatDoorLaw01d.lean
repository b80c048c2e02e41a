/- The law OctetQuotes, walked: it returns true. No condition. -/
import Derived.Test.YtclgkkencpkjpaaGreatDoorAw01
import Derived.Test.YtclgkkencpkjpaaGreatDoorRpl4
namespace Go.Proofs.YtclgkkencpkjpaaGreatDoor
open Go.RowKit IH
set_option maxRecDepth 100000
theorem quotes_far (w : World) (s b : ByteArray) (hg : 3000 < s.size ∨ (s.size ≤ 3000 ∧ 1000 < b.size)) :
    Calls Tryz.prog 3 #[.string s, .string b] w fun e w' => e = .returned (.bool true) ∧ Below w.heap.size w w' := by
  rcases hg with h1 | ⟨h1, h2⟩
  all_goals
    go_enter Tryz.func3, Tryz.ntmps3
    go_wp2_with fail
    refine (awake01_any _).mono ?_
    rintro e w1 ⟨rfl, hb1⟩
    go_wp2_with fail
    refine (awake01_any _).mono ?_
    rintro e w2 ⟨rfl, hb2⟩
    go_wp2
    go_ret
    exact ⟨rfl, hb1.trans (hb2.mono hb1.size)⟩
set_option maxHeartbeats 4000000 in
theorem quotes_walk (w : World) (s : ByteArray) (_ws : s.size ≤ maxLen) (b : ByteArray) (_wb : b.size ≤ maxLen) :
    Calls Tryz.prog 3 #[.string s, .string b] w fun e w' => e = .returned (.bool true) ∧ Below w.heap.size w w' := by
  by_cases hg : 3000 < s.size ∨ (s.size ≤ 3000 ∧ 1000 < b.size)
  · exact quotes_far w s b hg
  · have hs : s.size ≤ 3000 := by omega
    have hb : b.size ≤ 1000 := by omega
    clear hg _ws _wb
    have C1 := Lib.hid (quote_any s (by omega))
    have C2 := Lib.hid (refQuote_any s (by omega))
    have C3 := Lib.hid (Unquote_any s (by omega))
    have C4 := Lib.hid (refUnquote_any s (by omega))
    unfold unqV at C3
    cases hp : allOf isPlain s.data.toList with
    | false =>
      have hT : quoteR s.data.toList = ([], 10) := by unfold quoteR; rw [if_neg (by rw [hp]; simp)]
      rw [hT, show quoV (([] : List UInt8), (10 : Int)) = .tuple #[.string ⟨#[]⟩, .int .i64 10] from rfl] at C1 C2
      generalize (unquote s.data.toList).1.toArray = u1 at *
      generalize (unquote s.data.toList).2.1 = u2 at *
      generalize (unquote s.data.toList).2.2 = u3 at *
      clear hT hp
      go_enter Tryz.func3, Tryz.ntmps3
      go_wp2_with fail
      refine (awake01_any _).mono ?_
      rintro e w1 ⟨rfl, hb1⟩
      go_wp2_with (first
        | (go_at_call 14; (with_reducible refine (C1.out _).mono ?_); rintro e w2 ⟨rfl, hb2⟩)
        | (go_at_call 15; (with_reducible refine (C2.out _).mono ?_); rintro e w3 ⟨rfl, hb3⟩)
        | (go_at_call 16; (with_reducible refine (C3.out _).mono ?_); rintro e w4 ⟨rfl, hb4⟩)
        | (go_at_call 17; (with_reducible refine (C4.out _).mono ?_); rintro e w5 ⟨rfl, hb5⟩))
      go_ret
      have h2 := hb1.trans (hb2.mono hb1.size)
      have h3 := h2.trans (hb3.mono h2.size)
      have h4 := h3.trans (hb4.mono h3.size)
      exact ⟨rfl, h4.trans (hb5.mono h4.size)⟩
    | true =>
      have hT : quoteR s.data.toList = (quoteL s.data.toList, 0) := by unfold quoteR; rw [if_pos hp]
      rw [hT] at C1 C2
      obtain ⟨Q, hQ⟩ : ∃ Q : ByteArray, (⟨(quoteL s.data.toList).toArray⟩ : ByteArray) = Q := ⟨_, rfl⟩
      have hQl : Q.data.toList = quoteL s.data.toList := by rw [← hQ]
      have hQs : Q.size ≤ 9002 := by
        rw [← hQ, size_mk]
        unfold quoteL
        rw [List.length_cons, List.length_append, escs_count, data_len, List.length_singleton]
        have h1 : s.data.toList.count 92 ≤ s.size := by rw [← data_len]; exact List.count_le_length
        have h2 : s.data.toList.count 34 ≤ s.size := by rw [← data_len]; exact List.count_le_length
        omega
      have hun := unquote_quote s.data.toList b.data.toList hp
      have C5 := Unquote_any (Q ++ b) (by rw [ByteArray.size_append]; omega)
      rw [show (Q ++ b).data.toList = quoteL s.data.toList ++ b.data.toList from by rw [ByteArray.data_append, Array.toList_append, hQl], hun] at C5
      have hV : unqV (s.data.toList, ((quoteL s.data.toList).length : Int), 0) = .tuple #[.string s, .int .i64 Q.size, .int .i64 0] := by
        unfold unqV
        rw [← hQl, data_len, show (⟨s.data.toList.toArray⟩ : ByteArray) = s from by rw [Array.toArray_toList]]
      rw [hV] at C5
      have C5 := Lib.hid C5
      have hv : quoV (quoteL s.data.toList, 0) = .tuple #[.string Q, .int .i64 0] := by unfold quoV; rw [hQ]
      rw [hv] at C1 C2
      generalize (unquote s.data.toList).1.toArray = u1 at *
      generalize (unquote s.data.toList).2.1 = u2 at *
      generalize (unquote s.data.toList).2.2 = u3 at *
      clear hT hp hQ hQl hun hV hv
      go_enter Tryz.func3, Tryz.ntmps3
      go_wp2_with fail
      refine (awake01_any _).mono ?_
      rintro e w1 ⟨rfl, hb1⟩
      go_wp2_with (first
        | (go_at_call 14; (with_reducible refine (C1.out _).mono ?_); rintro e w2 ⟨rfl, hb2⟩)
        | (go_at_call 15; (with_reducible refine (C2.out _).mono ?_); rintro e w3 ⟨rfl, hb3⟩)
        | (go_at_call 16; (with_reducible refine (C3.out _).mono ?_); rintro e w4 ⟨rfl, hb4⟩)
        | (go_at_call 17; (with_reducible refine (C4.out _).mono ?_); rintro e w5 ⟨rfl, hb5⟩)
        | (go_at_call 16; (with_reducible refine (C5.out _).mono ?_); rintro e w6 ⟨rfl, hb6⟩))
      go_ret
      have h2 := hb1.trans (hb2.mono hb1.size)
      have h3 := h2.trans (hb3.mono h2.size)
      have h4 := h3.trans (hb4.mono h3.size)
      have h5 := h4.trans (hb5.mono h4.size)
      exact ⟨rfl, h5.trans (hb6.mono h5.size)⟩
end Go.Proofs.YtclgkkencpkjpaaGreatDoor
