/- Walk of layer 27: the document's deed of a line, of every kind. Condition: lines within 10^8 octets. -/
import Derived.Test.YtmcioedmjcbfbaaLna
import Derived.Test.YtmcioedmjcbfbaaLnb
namespace Go.Proofs.Ytmcioedmjcbfbaa
open Go.RowKit IH
set_option maxRecDepth 100000
theorem refLine_any (s : ByteArray) (hs : s.size ≤ 100000000) (w : World) :
    Calls Try.prog 38 #[.string s] w fun e w' => rlineV (lineD s.data.toList) w.heap.size e w' ∧ Below w.heap.size w w' := by
  obtain ⟨w0, ws, hW, _⟩ := words_join s.data.toList
  change wordsL s.data.toList = w0 :: ws at hW
  have hK : ∀ K0, kAt w0 (ws.length + 1) 11 = K0 → ∀ w1 ws1, wordsL s.data.toList = w1 :: ws1 → kAt w1 (ws1.length + 1) 11 = K0 := by
    intro K0 h w1 ws1 e
    rw [hW] at e
    injection e with e1 e2
    subst e1 e2
    exact h
  rcases kAt_line w0 ws with ⟨h1, _⟩ | ⟨k, hk, h1, _⟩
  · exact refLine_a (-1) (.inl rfl) s hs (hK _ h1) w
  · have h11 : k = 0 ∨ k = 1 ∨ k = 2 ∨ k = 3 ∨ k = 4 ∨ k = 5 ∨ k = 6 ∨ k = 7 ∨ k = 8 ∨ k = 9 ∨ k = 10 := by omega
    rcases h11 with rfl | rfl | rfl | rfl | rfl | rfl | rfl | rfl | rfl | rfl | rfl
    · exact refLine_a 0 (.inr (.inl rfl)) s hs (hK _ h1) w
    · exact refLine_d 1 rfl s hs (hK _ h1) w
    · exact refLine_e 2 rfl s hs (hK _ h1) w
    · exact refLine_b 3 (.inl rfl) s hs (hK _ h1) w
    · exact refLine_b 4 (.inr rfl) s hs (hK _ h1) w
    · exact refLine_c 5 (.inr (.inr rfl)) s hs (hK _ h1) w
    · exact refLine_c 6 (.inl rfl) s hs (hK _ h1) w
    · exact refLine_f 7 rfl s hs (hK _ h1) w
    · exact refLine_c 8 (.inr (.inl rfl)) s hs (hK _ h1) w
    · exact refLine_g 9 rfl s hs (hK _ h1) w
    · exact refLine_a 10 (.inr (.inr rfl)) s hs (hK _ h1) w
end Go.Proofs.Ytmcioedmjcbfbaa
