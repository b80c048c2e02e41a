/- Walks of layer 27: a call that fails put behind the others; a number put where it is asked for, whichever. Condition: texts within 10^9 octets, fewer calls than 10^9. -/
import Derived.Test.YtmcioedmjcbfbaaScr15
namespace Go.Proofs.Ytmcioedmjcbfbaa
open Go.RowKit IH
set_option maxRecDepth 100000
set_option maxHeartbeats 2000000 in
theorem dnumF_any (s : ByteArray) (hs : s.size ≤ 1000000000) (g B : Nat) (w : World) (hB : B ≤ g) (d : Deed) (hc : d.calls.length ≤ 1000000000) (hr : DeedAt w g 98 B d) :
    Calls Try.prog 87 #[.pointer (some ⟨g, 0, none⟩), .int .u8 102, .string s] w fun e w' => e = .returned (.bool (numP s.data.toList).isSome) ∧ DeedAt w' g 98 B (putD 102 d (numC s.data.toList).1) ∧ Below B w w' := by
  have NU := Lib.hid (fun w => numbered_any s hs w)
  obtain ⟨vB, vC, vK, hr, ho⟩ := hr
  have Hr := Lib.hid hr
  have Ho := Lib.hid ho
  have hgl := hr.lt
  clear hr ho
  rw [put102]
  generalize (numC s.data.toList).1 = n at *
  generalize (numP s.data.toList).isSome = ok at *
  go_enter Try.func87, Try.ntmps87
  go_wp2_with (first
    | (go_at_call 109; refine (NU.out _).mono ?_; rintro e w2 ⟨rfl, hb2⟩; have R2 := Lib.hid (Hr.out.below hb2 hgl); have O2 := Lib.hid (Ho.out.keep (Kept3.below hb2)); have B2 := Lib.hid (hb2.mono (show B ≤ w.heap.size by omega)); have h2s := hb2.size; have d4 := R2.out.cell (j := 4) rfl; clear hb2)
    | (at_builtin; refine wpList_app int_ty rfl _ _ rfl B _ _ _ rfl O2.out.c 1 1 [.int .i64 n] rfl (by rfl) (intsV_one [n]) (by omega) (by simp only [maxLen]; omega) (by omega) ?_; intro v4 w4 hown hgr; obtain ⟨A4, q4, rfl, _⟩ := own_slice hown; have f4 := (R2.out.grown hgr (own_block O2.out.c) (by decide)).frozen (j := 4) (show 4 < 8 by omega); have c4 := (R2.out.grown hgr (own_block O2.out.c) (by decide)).cell (j := 4) rfl))
  go_ret
  have R4 := R2.out.grown hgr (own_block O2.out.c) (by decide)
  have hb4 := own_grown O2.out.b hgr (own_block O2.out.c) (by decide)
  have hk4 := own_grown O2.out.k hgr (own_block O2.out.c) (by decide)
  have B4 := B2.out.grown hgr (by omega) fun k hk => (own_block O2.out.c k hk).choose_spec.2
  have K5 := fun v => Kept3.only (Only.setCell g 4 w4 v) R4 (by decide)
  have hown' : w4.ownsRow B 3 1 (.slice A4 (d.calls.length + 1) q4) (d.calls ++ [n]).length (intsV (d.calls ++ [n])) := by rw [intsV_append, List.length_append]; exact hown
  exact ⟨rfl, ⟨vB, _, vK, R4.set_ (j := 4) (show 4 < 8 by omega) _, ⟨own_keep hb4 fun k cur hh => K5 _ k cur _ (.inl rfl) hh, own_keep hown' fun k cur hh => K5 _ k cur _ (.inr (.inl rfl)) hh, own_keep hk4 fun k cur hh => K5 _ k cur _ (.inr (.inr rfl)) hh⟩⟩, B4.setCell hB _⟩
/-- Whichever number it is. -/
theorem dnumA_any (a : UInt8) (ask : Int) (ha : (a = 99 ∧ ask = 99) ∨ (a = 110 ∧ ask = 110) ∨ (a = 116 ∧ ask = 116) ∨ (a = 112 ∧ ask = 112) ∨ (a = 102 ∧ ask = 102)) (s : ByteArray) (hs : s.size ≤ 1000000000) (g B : Nat) (w : World) (hB : B ≤ g) (d : Deed) (hc : d.calls.length ≤ 1000000000) (hr : DeedAt w g 98 B d) :
    Calls Try.prog 87 #[.pointer (some ⟨g, 0, none⟩), .int .u8 ask, .string s] w fun e w' => e = .returned (.bool (numP s.data.toList).isSome) ∧ DeedAt w' g 98 B (putD a d (numC s.data.toList).1) ∧ Below B w w' := by
  rcases ha with h | h | h | h | ⟨rfl, rfl⟩
  · exact dnum_any a ask (.inl h) s hs g B w hB d hr
  · exact dnum_any a ask (.inr (.inl h)) s hs g B w hB d hr
  · exact dnum_any a ask (.inr (.inr (.inl h))) s hs g B w hB d hr
  · exact dnum_any a ask (.inr (.inr (.inr h))) s hs g B w hB d hr
  · exact dnumF_any s hs g B w hB d hc hr
end Go.Proofs.Ytmcioedmjcbfbaa
