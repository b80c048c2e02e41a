/- octet.Quote: the text between quotation marks, as the law's own Quote has it. Condition: lengths within bounds. -/
import Derived.Test.YtclgkkencpkjpaaGreatDoorRpl3
import Derived.Test.YtclgkkencpkjpaaGreatDoorOct1
import Derived.Test.YtclgkkencpkjpaaGreatDoorMath6
import Derived.Test.YtclgkkencpkjpaaGreatDoorQuo1
namespace Go.Proofs.YtclgkkencpkjpaaGreatDoor
open Go.RowKit IH
set_option maxRecDepth 100000
set_option maxHeartbeats 4000000 in
theorem quote_any (s : ByteArray) (hs : s.size ≤ 1000000) (w : World) :
    Calls Tryz.prog 14 #[.string s] w fun e w' => e = .returned (quoV (quoteR s.data.toList)) ∧ Below w.heap.size w w' := by
  have AP := Lib.hid (allPlain_any s isPlain plain_any (by omega) w)
  obtain ⟨T, hT⟩ : ∃ T, quoteR s.data.toList = T := ⟨_, rfl⟩
  rw [hT]
  unfold quoteR at hT
  cases hp : allOf isPlain s.data.toList with
  | false =>
    rw [hp] at AP hT
    have HT : Hid (([], 10) = T) := Lib.hid hT
    clear hT hp
    go_enter Tryz.func14, Tryz.ntmps14
    go_wp2_with (go_at_call 57; (with_reducible refine AP.out.mono ?_); rintro e w2 ⟨rfl, rfl⟩)
    go_ret2
    exact ⟨by rw [← HT.out]; rfl, Below.refl _ _⟩
  | true =>
    rw [hp] at AP hT
    have HT : Hid ((quoteL s.data.toList, 0) = T) := Lib.hid hT
    obtain ⟨S, hS⟩ : ∃ S : ByteArray, (⟨(s.data.toList.flatMap escQ).toArray⟩ : ByteArray) = S := ⟨_, rfl⟩
    have HS := Lib.hid hS
    have hSs : S.size ≤ 3000000 := by
      rw [← hS, size_mk, escs_count, data_len]
      have h1 : s.data.toList.count 92 ≤ s.size := by rw [← data_len]; exact List.count_le_length
      have h2 : s.data.toList.count 34 ≤ s.size := by rw [← data_len]; exact List.count_le_length
      omega
    have HE : Hid ((⟨#[34]⟩ ++ S ++ ⟨#[34]⟩ : ByteArray) = ⟨(quoteL s.data.toList).toArray⟩) := Lib.hid (by
      rw [← hS]
      apply ByteArray.ext
      simp [quoteL, ByteArray.data_append])
    clear hT hp hS
    have RO := RowAt.new w 9 (strsV rplOld)
    have NR := Lib.hid (newrep_any w.heap.size 0 4 (w.alloc (.cells #[.string ⟨#[34]⟩, .string ⟨#[92, 34]⟩, .string ⟨#[92]⟩, .string ⟨#[92, 92]⟩] 9)) (by
      have h := RO.slice (size := 1) (n := 4) (c := 4) rfl (Nat.le_refl _) (by simp [maxLen])
      exact h))
    have B0 : Hid (Below w.heap.size w (w.alloc (.cells #[.string ⟨#[34]⟩, .string ⟨#[92, 34]⟩, .string ⟨#[92]⟩, .string ⟨#[92, 92]⟩] 9))) := Lib.hid ((Below.refl _ _).alloc (Nat.le_refl _) _)
    clear RO
    go_enter Tryz.func14, Tryz.ntmps14
    go_wp2_with (first
      | (go_at_call 57; (with_reducible refine AP.out.mono ?_); rintro e w2 ⟨rfl, rfl⟩)
      | (go_at_call 59; (with_reducible refine NR.out.mono ?_); rintro e w2 ⟨g, b, o, c, rfl, hr, hin, hbel, hg⟩; have RR := Lib.hid (rreplace_any g b o c s hs w2 hr hin); have B2 := Lib.hid (below_step B0.out hbel); have HG := Lib.hid (Nat.le_trans B0.out.size hg); rw [HS.out] at RR; clear hr hin hbel hg)
      | (go_at_call 60; (with_reducible refine RR.out.mono ?_); rintro e w3 ⟨rfl, hsv⟩; have B3 := Lib.hid (B2.out.trans ((hsv.mono B2.out.size).below HG.out)); clear hsv))
    go_ret2
    exact ⟨by rw [← HT.out]; show Ending.returned (.tuple #[.string (⟨#[34]⟩ ++ S ++ ⟨#[34]⟩), .int .i64 0]) = _; rw [HE.out]; rfl, B3.out⟩
end Go.Proofs.YtclgkkencpkjpaaGreatDoor
