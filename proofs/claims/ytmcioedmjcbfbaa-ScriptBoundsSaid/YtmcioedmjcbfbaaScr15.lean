/- Walks of layer 27: a number put where it is asked for. Condition: texts within 10^9 octets, fewer calls than 10^9. -/
import Derived.Test.YtmcioedmjcbfbaaScr14
import Derived.Test.YtmcioedmjcbfbaaScr10
import Derived.Test.YtmcioedmjcbfbaaDeed
namespace Go.Proofs.Ytmcioedmjcbfbaa
open Go.RowKit IH
set_option maxRecDepth 100000
theorem put99 (d : Deed) (n : Int) : putD 99 d n = { d with conn := n } := by simp [putD]
theorem put110 (d : Deed) (n : Int) : putD 110 d n = { d with n := n } := by simp [putD]
theorem put116 (d : Deed) (n : Int) : putD 116 d n = { d with torn := n } := by simp [putD]
theorem put112 (d : Deed) (n : Int) : putD 112 d n = { d with part := n } := by simp [putD]
theorem put102 (d : Deed) (n : Int) : putD 102 d n = { d with calls := d.calls ++ [n] } := by simp [putD]
set_option maxHeartbeats 2000000 in
theorem dnum_any (a : UInt8) (ask : Int) (ha : (a = 99 ∧ ask = 99) ∨ (a = 110 ∧ ask = 110) ∨ (a = 116 ∧ ask = 116) ∨ (a = 112 ∧ ask = 112)) (s : ByteArray) (hs : s.size ≤ 1000000000) (g B : Nat) (w : World) (hB : B ≤ g) (d : Deed) (hr : DeedAt w g 98 B d) :
    Calls Try.prog 87 #[.pointer (some ⟨g, 0, none⟩), .int .u8 ask, .string s] w fun e w' => e = .returned (.bool (numP s.data.toList).isSome) ∧ DeedAt w' g 98 B (putD a d (numC s.data.toList).1) ∧ Below B w w' := by
  have NU := Lib.hid (fun w => numbered_any s hs w)
  obtain ⟨vB, vC, vK, hr, ho⟩ := hr
  have Hr := Lib.hid hr
  have Ho := Lib.hid ho
  have hgl := hr.lt
  clear hr ho
  generalize (numC s.data.toList).1 = n at *
  generalize (numP s.data.toList).isSome = ok at *
  obtain ⟨cs, hcs⟩ : ∃ cs, cells8 d vB vC vK = cs := ⟨_, rfl⟩
  have hl8 : cs.length = 8 := by rw [← hcs]; rfl
  rw [hcs] at Hr
  have HC := Lib.hid hcs
  clear hcs
  rcases ha with ⟨rfl, rfl⟩ | ⟨rfl, rfl⟩ | ⟨rfl, rfl⟩ | ⟨rfl, rfl⟩
  all_goals
    go_enter Try.func87, Try.ntmps87
    go_wp2_with (go_at_call 109; refine (NU.out _).mono ?_; rintro e w2 ⟨rfl, hb2⟩; have R2 := Lib.hid (Hr.out.below hb2 hgl); have K2 := Lib.hid (Kept3.below hb2); have B2 := Lib.hid (hb2.mono (show B ≤ w.heap.size by omega)); have d1 := R2.out.cell (j := 1) (List.getElem?_eq_getElem (by omega)); have d2 := R2.out.cell (j := 2) (List.getElem?_eq_getElem (by omega)); have d6 := R2.out.cell (j := 6) (List.getElem?_eq_getElem (by omega)); have d7 := R2.out.cell (j := 7) (List.getElem?_eq_getElem (by omega)); have f1 := R2.out.frozen (j := 1) (by omega); have f2 := R2.out.frozen (j := 2) (by omega); have f6 := R2.out.frozen (j := 6) (by omega); have f7 := R2.out.frozen (j := 7) (by omega); clear hb2)
    go_ret
    have H8 := HC.out
    subst H8
    refine ⟨rfl, ⟨vB, vC, vK, ?_, ?_⟩, B2.out.setCell hB _⟩
    · first | rw [put99] | rw [put110] | rw [put116] | rw [put112]
      exact R2.out.set_ (by omega) _
    · have O2 := fun o v => Ho.out.keep (K2.out.trans (Kept3.only (Only.setCell g o w2 v) R2.out (by decide)))
      first | rw [put99] | rw [put110] | rw [put116] | rw [put112]
      exact ⟨(O2 _ _).b, (O2 _ _).c, (O2 _ _).k⟩
end Go.Proofs.Ytmcioedmjcbfbaa
