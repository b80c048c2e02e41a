/- Layer 7 in plain Lean: what the bounds' bodies come to, decoded. No program in sight; no condition. -/
import Derived.Test.YtefoaldpllnijaaDoorChk5
import Derived.Test.YtefoaldpllnijaaDoorChk4
import Derived.Test.YtefoaldpllnijaaDoorChk3
namespace IH
set_option maxRecDepth 100000
theorem decode_enc (ps : List (List UInt8)) (h : total ps ≤ 1048576) : decodeL (encL ps) = (ps.flatten, (encL ps).length, 0) := by
  have := enc_back ps [] h
  rw [List.append_nil] at this
  unfold decodeL
  rw [this]
  simp [end4]
theorem decode_err {l : List UInt8} {e : Int} (h : (run Dec.new l).2.2.1 = e) (he : e ≠ 0) : (decodeL l).2.2 = e := by
  unfold decodeL
  rw [h, if_pos he]
theorem decode_ok {l : List UInt8} (h : (run Dec.new l).2.2.1 = 0) (h4 : (run Dec.new l).2.2.2.w = 4) : (decodeL l).2.2 = 0 := by
  unfold decodeL
  rw [if_neg (by simp [h]), if_neg (by simp [h4])]
theorem decode_halves (H : List UInt8) (hH : H.length = 524288) (K : Nat) (hK : K ≤ 4) : (decodeL (encL [H, H.take (524286 + min K 2), H.take (K - 2)])).2.2 = if K ≤ 2 then 0 else 12 := by
  have l1 : (H.take (524286 + min K 2)).length = 524286 + min K 2 := by rw [List.length_take, hH]; omega
  have l2 : (H.take (K - 2)).length = K - 2 := by rw [List.length_take, hH]; omega
  by_cases h : K ≤ 2
  · rw [if_pos h, decode_enc]
    simp only [total, List.map_cons, List.map_nil, List.sum_cons, List.sum_nil, hH, l1, l2]
    omega
  · rw [if_neg h]
    refine decode_err ?_ (by decide)
    have e : encL [H, H.take (524286 + min K 2), H.take (K - 2)] = [H, H.take (524286 + min K 2)].flatMap encP ++ encP (H.take (K - 2)) ++ [48, 13, 10, 13, 10] := by
      unfold encL
      simp
    rw [e]
    refine enc_long _ _ _ ?_ ?_ ?_ ?_
    · simp only [total, List.map_cons, List.map_nil, List.sum_cons, List.sum_nil, hH, l1]; omega
    · intro h0
      have := congrArg List.length h0
      rw [l2] at this
      simp at this
      omega
    · rw [l2]; omega
    · simp only [total, List.map_cons, List.map_nil, List.sum_cons, List.sum_nil, hH, l1, l2]; omega
theorem decode_ext (n : Nat) : (decodeL (extB7 n)).2.2 = if n ≤ 252 then 0 else 12 := by
  obtain ⟨h1, h2⟩ := ext_run n
  by_cases h : n ≤ 252
  · rw [if_pos h] at h1 ⊢
    exact decode_ok h1 (h2 h)
  · rw [if_neg h] at h1 ⊢
    exact decode_err h1 (by decide)
theorem decode_abs (n : Nat) : (decodeL ([48, 13, 10] ++ abs6 n [13, 10])).2.2 = if n ≤ 128 then 0 else 13 := by
  have hl : lineC ([48] ++ 13 :: 10 :: abs6 n [13, 10]) = ([48], 3, 0) := lineC_of (by decide) (by decide) _
  have hz : sizeC [48] = 0 := by decide
  have hr : run Dec.new ([48, 13, 10] ++ abs6 n [13, 10]) = ahead [] 3 (run (at3 0 0) (abs6 n [13, 10])) := by
    have := run0_end (t := 0) hl (by decide) hz
    exact this
  obtain ⟨t1, t2⟩ := trailers n 0 0 [] (by omega)
  by_cases h : n ≤ 128
  · rw [if_pos h]
    obtain ⟨a, b⟩ := t1 (by omega)
    have e : run Dec.new ([48, 13, 10] ++ abs6 n [13, 10]) = ([] ++ (run (at3 0 0) (abs6 n [13, 10])).1, 3 + (run (at3 0 0) (abs6 n [13, 10])).2.1, 0, (run (at3 0 0) (abs6 n [13, 10])).2.2.2) := by
      rw [hr]
      unfold ahead
      rw [if_neg (by simp [a])]
    refine decode_ok (by rw [e]) ?_
    rw [e]; exact b
  · rw [if_neg h]
    have a := t2 (by omega) (by omega)
    refine decode_err ?_ (by decide)
    rw [hr]
    unfold ahead
    rw [if_pos (by rw [a]; decide)]
    exact a
theorem abs6_app (n : Nat) (r : List UInt8) : abs6 n [] ++ r = abs6 n r := by
  induction n with
  | zero => rfl
  | succ n ih => simp only [abs6, List.cons_append, ih]
theorem abs6_snoc (n : Nat) (r : List UInt8) : abs6 (n + 1) r = abs6 n (97 :: 58 :: 32 :: 98 :: 13 :: 10 :: r) := by
  induction n with
  | zero => rfl
  | succ n ih =>
    have e1 : abs6 (n + 1 + 1) r = 97 :: 58 :: 32 :: 98 :: 13 :: 10 :: abs6 (n + 1) r := rfl
    have e2 : abs6 (n + 1) (97 :: 58 :: 32 :: 98 :: 13 :: 10 :: r) = 97 :: 58 :: 32 :: 98 :: 13 :: 10 :: abs6 n (97 :: 58 :: 32 :: 98 :: 13 :: 10 :: r) := rfl
    rw [e1, e2, ih]
theorem abs6_len (n : Nat) (r : List UInt8) : (abs6 n r).length = 6 * n + r.length := by
  induction n with
  | zero => simp [abs6]
  | succ n ih => simp only [abs6, List.length_cons, ih]; omega
end IH
