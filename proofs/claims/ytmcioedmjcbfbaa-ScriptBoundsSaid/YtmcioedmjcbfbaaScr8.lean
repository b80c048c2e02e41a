/- Walks of layer 27: a number's text, on both sides. Condition: numbers are ints. -/
import Derived.Test.YtmcioedmjcbfbaaOct10
import Derived.Test.YtmcioedmjcbfbaaPm
namespace Go.Proofs.Ytmcioedmjcbfbaa
open Go.RowKit IH
set_option maxRecDepth 100000
theorem num_pos {n : Int} (h : ¬ n < 0) : numL n = printN n 10 := by unfold numL; rw [if_neg h]; rfl
theorem num_neg {n : Int} (h : n < 0) : numL n = 45 :: printN (-n) 10 := by unfold numL; rw [if_pos h]; rfl
theorem printN_len (n : Int) : (printN n 10).length ≤ 64 := digs_length _ _ _
theorem num_least : numL (-9223372036854775808) = [45, 57, 50, 50, 51, 51, 55, 50, 48, 51, 54, 56, 53, 52, 55, 55, 53, 56, 48, 56] := by decide +kernel
set_option maxHeartbeats 2000000 in
theorem snumber_any (n : Int) (h0 : -9223372036854775808 ≤ n) (h1 : n ≤ 9223372036854775807) (w : World) :
    Calls Try.prog 94 #[.int .i64 n] w fun e w' => e = .returned (.string ⟨(numL n).toArray⟩) ∧ ∃ nq, w' = w.drewN nq := by
  by_cases hl : n = -9223372036854775808
  · subst hl
    have HN := Lib.hid num_least
    go_enter Try.func94, Try.ntmps94
    go_wp2
    go_ret
    rw [HN.out]
    exact ⟨rfl, 0, rfl⟩
  · have hlb : (n == -9223372036854775808) = false := by rw [beq_eq_false_iff_ne]; exact hl
    by_cases hn : n < 0
    · have HN := Lib.hid (num_neg hn)
      have hl64 := printN_len (-n)
      have PN := fun w => Print_any (-n) 10 (by omega) (by omega) w
      obtain ⟨X, hX⟩ : ∃ X : ByteArray, (⟨(printN (-n) 10).toArray⟩ : ByteArray) = X := ⟨_, rfl⟩
      have hXs : X.size ≤ 64 := by rw [← hX, size_mk]; exact hl64
      have hXd : X.data.toList = printN (-n) 10 := by rw [← hX]
      have hwn : IntKind.i64.wrap (-n) = -n := IntWalk.i64_in _ ⟨by omega, by omega⟩
      rw [hX] at PN
      have HXd := Lib.hid hXd
      replace PN := Lib.hid PN
      clear hl hX hXd hl64
      go_enter Try.func94, Try.ntmps94
      go_wp2_with (go_at_call 106; refine (PN.out _).mono ?_; rintro e w2 ⟨rfl, q, rfl⟩)
      go_ret
      refine ⟨ret_str (bytes_eq ?_), q, rfl⟩
      rw [HN.out, append_data, HXd.out]
      rfl
    · have HN := Lib.hid (num_pos hn)
      have PN := Lib.hid (fun w => Print_any n 10 (by omega) (by omega) w)
      have hn2 : 0 ≤ n := by omega
      clear hl
      go_enter Try.func94, Try.ntmps94
      go_wp2_with (go_at_call 106; refine (PN.out _).mono ?_; rintro e w2 ⟨rfl, q, rfl⟩)
      go_ret
      rw [HN.out]
      exact ⟨rfl, q, rfl⟩
theorem dstep (M : Nat) (hM : M ≤ 9223372036854775808) : digs 10 64 M = (if M / 10 = 0 then [] else digs 10 64 (M / 10)) ++ [digC (M % 10)] := by
  rcases Nat.lt_or_ge M 9223372036854775808 with h | h
  · exact (prAt_start (base := 10) (by omega) (show M < 2 ^ 63 by omega)).2
  · obtain rfl : M = 9223372036854775808 := by omega
    decide +kernel
set_option maxHeartbeats 2000000 in
theorem refDigits_any (n : Int) (h0 : -9223372036854775808 ≤ n) (h1 : n ≤ 9223372036854775807) (w : World) :
    Calls Try.prog 40 #[.int .i64 n] w fun e w' => e = .returned (.string ⟨(numL n).toArray⟩) ∧ Below w.heap.size w w' := by
  by_cases hn : n < 0
  · have HN := Lib.hid (num_neg hn)
    obtain ⟨M0, hM0⟩ : ∃ M : Nat, M = (-n).toNat := ⟨_, rfl⟩
    have hD : printN (-n) 10 = digs 10 64 M0 := by rw [hM0]; rfl
    have hnM : n = -(M0 : Int) := by omega
    have hMl : M0 ≤ 9223372036854775808 := by omega
    have hMp : M0 ≠ 0 := by omega
    rw [hD] at HN
    have HnM := Lib.hid hnM
    clear hM0 hD hnM
    go_enter Try.func40, Try.ntmps40
    go_wp2
    go_loopw [0, 3] (fun m s wr => ∃ (z : Int) (M : Nat) (T : ByteArray), m = .int .i64 z ∧ s = .string T ∧ z = -(M : Int) ∧ M ≤ M0 ∧ digs 10 64 M0 = (if M = 0 then [] else digs 10 64 M) ++ T.data.toList ∧ Below w.heap.size w wr) (fun m _ _ => (-(intOf m)).toNat)
    case atStart => exact ⟨n, M0, ⟨#[]⟩, rfl, rfl, HnM.out, Nat.le_refl _, by rw [if_neg hMp]; simp, Below.refl _ _⟩
    case round =>
      obtain ⟨z, M, T, rfl, rfl, hz, hMM, hat, hbel⟩ := hrel
      have hTs : T.size ≤ 64 := by
        have h1 := congrArg List.length hat
        rw [List.length_append, data_len] at h1
        have h2 := digs_length 10 64 M0
        omega
      have Hat := Lib.hid hat
      clear hat
      by_cases hM : M = 0
      · subst hM
        have hz0 : z = 0 := by omega
        subst hz0
        clear hz
        go_wp2
        go_ret
        refine ⟨ret_str (bytes_eq ?_), hbel⟩
        have := Hat.out
        simp only [if_true, List.nil_append] at this
        rw [HN.out, append_data, this]
        rfl
      · have hzn : z < 0 := by omega
        have hzl : -9223372036854775808 ≤ z := by omega
        have hst := dstep M (by omega)
        have hnx : digs 10 64 M0 = (if M / 10 = 0 then [] else digs 10 64 (M / 10)) ++ ((⟨#[digC (M % 10)]⟩ : ByteArray) ++ T).data.toList := by
          rw [Hat.out, if_neg hM, hst, append_data, List.append_assoc]
        have Hnx := Lib.hid hnx
        have e := digC_lo (M % 10) (by omega)
        have hcs := fun W => run_one_string W (.int .u8 (48 + ((M % 10 : Nat) : Int))) _ e
        obtain ⟨d, hd⟩ : ∃ d : Int, ((M % 10 : Nat) : Int) = d := ⟨_, rfl⟩
        have hd0 : 0 ≤ d := by omega
        have hd9 : d ≤ 9 := by omega
        have hmod : Int.tmod z 10 = -d := by rw [hz, Int.neg_tmod, ← hd]; rfl
        have hdiv : Int.tdiv z 10 = -((M / 10 : Nat) : Int) := by rw [hz, Int.neg_tdiv]; rfl
        rw [hd] at hcs
        obtain ⟨y, hy⟩ : ∃ y : Int, -((M / 10 : Nat) : Int) = y := ⟨_, rfl⟩
        rw [hy] at hdiv
        have hy0 : y ≤ 0 := by omega
        have hyl : -9223372036854775808 ≤ y := by omega
        have Hlt : Hid ((-y).toNat < (-z).toNat) := Lib.hid (by omega)
        have Hy := Lib.hid hy
        have HMd : Hid (M / 10 ≤ M0) := Lib.hid (by omega)
        clear e hst hnx hd hz hy hM
        have hC1 : (⟨#[digC (M % 10)]⟩ : ByteArray).size = 1 := rfl
        generalize (⟨#[digC (M % 10)]⟩ : ByteArray) = C1 at *
        go_wp2
        go_roundw
        case rel => exact ⟨y, M / 10, _, rfl, rfl, Hy.out.symm, HMd.out, Hnx.out, hbel.alloc hbel.size _⟩
        case measure => simpa [intOf] using Hlt.out
  · have HN := Lib.hid (num_pos hn)
    have PN := Lib.hid (fun w => refPrint_any n 10 (by omega) w)
    have hn2 : 0 ≤ n := by omega
    go_enter Try.func40, Try.ntmps40
    go_wp2_with (go_at_call 63; refine (PN.out _).mono ?_; rintro e w2 ⟨rfl, hb⟩)
    go_ret
    rw [HN.out]
    exact ⟨rfl, hb⟩
end Go.Proofs.Ytmcioedmjcbfbaa
