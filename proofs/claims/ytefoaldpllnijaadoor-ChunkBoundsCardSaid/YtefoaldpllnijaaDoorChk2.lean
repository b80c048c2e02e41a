/- Layer 7 in plain Lean: the run of a decoder, way by way; chunks put together are taken apart. No program in sight; no condition. -/
import Derived.Test.YtefoaldpllnijaaDoorChk1
namespace IH
set_option maxRecDepth 100000

def at0 (t : Int) : Dec := ⟨0, 0, t, 0, 0⟩
def at2 (t : Int) : Dec := ⟨2, 0, t, 0, 0⟩
def at3 (t k : Int) : Dec := ⟨3, 0, t, k, 0⟩
def end4 (t k : Int) : Dec := ⟨4, 0, t, k, 0⟩

theorem step0 (t : Int) (r : List UInt8) : stepC (at0 t) r = if (lineC r).2.2 ≠ 0 ∨ (lineC r).2.1 = 0 then ([], 0, (lineC r).2.2, at0 t)
    else ([], (lineC r).2.1, (beginC (at0 t) (lineC r).1).1, (beginC (at0 t) (lineC r).1).2) := by
  unfold stepC at0
  simp
theorem step3 (t k : Int) (r : List UInt8) : stepC (at3 t k) r = if (lineC r).2.2 ≠ 0 ∨ (lineC r).2.1 = 0 then ([], 0, (lineC r).2.2, at3 t k)
    else ([], (lineC r).2.1, (tailC (at3 t k) (lineC r).1).1, (tailC (at3 t k) (lineC r).1).2) := by
  unfold stepC at3
  simp
theorem run0_err {t : Int} {r : List UInt8} (h : (lineC r).2.2 ≠ 0) : run (at0 t) r = ([], 0, (lineC r).2.2, { at0 t with fault := (lineC r).2.2 }) := by
  have e : stepC (at0 t) r = ([], 0, (lineC r).2.2, at0 t) := by rw [step0, if_pos (.inl h)]
  rw [run_step, e]
  simp [h]
theorem run0_more {t : Int} {r : List UInt8} (h : (lineC r).2.2 = 0) (h0 : (lineC r).2.1 = 0) : run (at0 t) r = ([], 0, 0, at0 t) := by
  have e : stepC (at0 t) r = ([], 0, 0, at0 t) := by rw [step0, if_pos (.inr h0), h]
  rw [run_step, e]
  simp
theorem run3_err {t k : Int} {r : List UInt8} (h : (lineC r).2.2 ≠ 0) : run (at3 t k) r = ([], 0, (lineC r).2.2, { at3 t k with fault := (lineC r).2.2 }) := by
  have e : stepC (at3 t k) r = ([], 0, (lineC r).2.2, at3 t k) := by rw [step3, if_pos (.inl h)]
  rw [run_step, e]
  simp [h]
theorem run3_more {t k : Int} {r : List UInt8} (h : (lineC r).2.2 = 0) (h0 : (lineC r).2.1 = 0) : run (at3 t k) r = ([], 0, 0, at3 t k) := by
  have e : stepC (at3 t k) r = ([], 0, 0, at3 t k) := by rw [step3, if_pos (.inr h0), h]
  rw [run_step, e]
  simp
section
variable {t k : Int} {r s : List UInt8} {n : Nat}
theorem run0_bad (h : lineC r = (s, n, 0)) (hn : n ≠ 0) (hs : sizeC s < 0) : run (at0 t) r = ([], 0, 10, { at0 t with fault := 10 }) := by
  have e : stepC (at0 t) r = ([], n, 10, at0 t) := by
    rw [step0, h, if_neg (by simp [hn])]
    unfold beginC
    simp only
    rw [if_pos hs]
  rw [run_step, e]
  simp
theorem run0_end (h : lineC r = (s, n, 0)) (hn : n ≠ 0) (hs : sizeC s = 0) : run (at0 t) r = ahead [] n (run (at3 t 0) (r.drop n)) := by
  have e : stepC (at0 t) r = ([], n, 0, at3 t 0) := by
    rw [step0, h, if_neg (by simp [hn])]
    unfold beginC
    simp only
    rw [if_neg (by omega), if_pos hs]
    rfl
  rw [run_step, e]
  simp [hn]
theorem run0_long (h : lineC r = (s, n, 0)) (hn : n ≠ 0) (hs : 0 < sizeC s) (hl : 1048576 - t < sizeC s) : run (at0 t) r = ([], 0, 12, { at0 t with fault := 12 }) := by
  have e : stepC (at0 t) r = ([], n, 12, at0 t) := by
    rw [step0, h, if_neg (by simp [hn])]
    unfold beginC
    simp only
    rw [if_neg (by omega), if_neg (by omega), if_pos (by exact hl)]
  rw [run_step, e]
  simp
theorem run0_data (h : lineC r = (s, n, 0)) (hn : n ≠ 0) (hs : 0 < sizeC s) (hl : sizeC s ≤ 1048576 - t) : run (at0 t) r = ahead [] n (run ⟨1, sizeC s, t + sizeC s, 0, 0⟩ (r.drop n)) := by
  have e : stepC (at0 t) r = ([], n, 0, ⟨1, sizeC s, t + sizeC s, 0, 0⟩) := by
    rw [step0, h, if_neg (by simp [hn])]
    unfold beginC
    simp only
    rw [if_neg (by omega), if_neg (by omega), if_neg (by show ¬ (1048576 - t < sizeC s); omega)]
    rfl
  rw [run_step, e]
  simp [hn]
theorem run1_part {N T : Int} {b : List UInt8} (h : (b.length : Int) < N) : run ⟨1, N, T, 0, 0⟩ b = (b, b.length, 0, ⟨1, N - b.length, T, 0, 0⟩) := by
  have hi : ∀ M : Int, 0 < M → run ⟨1, M, T, 0, 0⟩ [] = ([], 0, 0, ⟨1, M, T, 0, 0⟩) := by
    intro M hM
    have e : stepC ⟨1, M, T, 0, 0⟩ [] = ([], 0, 0, ⟨1, M, T, 0, 0⟩) := by
      unfold stepC
      simp
      omega
    rw [run_step, e]; simp
  have e : stepC ⟨1, N, T, 0, 0⟩ b = (b, b.length, 0, ⟨1, N - b.length, T, 0, 0⟩) := by
    unfold stepC
    simp only [if_true]
    have hm : min N.toNat b.length = b.length := by omega
    rw [hm, List.take_length, if_neg (by omega)]
  rw [run_step, e]
  simp only [ne_eq, not_true_eq_false, if_false, List.drop_length]
  by_cases h0 : b.length = 0
  · rw [if_pos h0, h0]
  · rw [if_neg h0, hi _ (by omega)]
    simp [ahead]
theorem run1_full {N : Nat} {T : Int} {b : List UInt8} (hN : 0 < N) (h : N ≤ b.length) : run ⟨1, N, T, 0, 0⟩ b = ahead (b.take N) N (run (at2 T) (b.drop N)) := by
  have e : stepC ⟨1, N, T, 0, 0⟩ b = (b.take N, N, 0, at2 T) := by
    have hm : min N b.length = N := by omega
    unfold stepC at2
    simp [hm]
  rw [run_step, e]
  simp only [ne_eq, not_true_eq_false, if_false]
  rw [if_neg (by omega)]
theorem run2_more (h : r.length < 2) : run (at2 t) r = ([], 0, 0, at2 t) := by
  have e : stepC (at2 t) r = ([], 0, 0, at2 t) := by unfold stepC at2; simp [h]
  rw [run_step, e]; simp
theorem run2_bad (h : 2 ≤ r.length) (hc : r[0]? ≠ some 13 ∨ r[1]? ≠ some 10) : run (at2 t) r = ([], 0, 10, { at2 t with fault := 10 }) := by
  have e : stepC (at2 t) r = ([], 0, 10, at2 t) := by
    unfold stepC at2
    simp only
    rw [if_neg (by decide), if_pos trivial, if_neg (by omega), if_pos hc]
  rw [run_step, e]; simp
theorem run2_ok (q : List UInt8) : run (at2 t) (13 :: 10 :: q) = ahead [] 2 (run (at0 t) q) := by
  have e : stepC (at2 t) (13 :: 10 :: q) = ([], 2, 0, at0 t) := by
    unfold stepC at2 at0
    simp
  rw [run_step, e]; simp
theorem run4 (t k : Int) (r : List UInt8) : run (end4 t k) r = ([], 0, 0, end4 t k) := by
  have e : stepC (end4 t k) r = ([], 0, 0, end4 t k) := by unfold stepC end4; simp
  rw [run_step, e]; simp
theorem run3_end (h : lineC r = ([], n, 0)) (hn : n ≠ 0) : run (at3 t k) r = ([], n, 0, end4 t k) := by
  have e : stepC (at3 t k) r = ([], n, 0, end4 t k) := by
    rw [step3, h, if_neg (by simp [hn])]
    unfold tailC end4 at3
    simp
  rw [run_step, e]
  simp [hn, run4, ahead]
theorem run3_bad (h : lineC r = (s, n, 0)) (hn : n ≠ 0) (hs : s ≠ []) (hp : (parseFs (s ++ [13, 10, 13, 10])).2.2 ≠ 0) : run (at3 t k) r = ([], 0, 10, { at3 t k with fault := 10 }) := by
  have e : stepC (at3 t k) r = ([], n, 10, at3 t k) := by
    rw [step3, h, if_neg (by simp [hn])]
    unfold tailC
    simp only
    rw [if_neg hs, if_pos hp]
  rw [run_step, e]; simp
theorem run3_many (h : lineC r = (s, n, 0)) (hn : n ≠ 0) (hs : s ≠ []) (hp : (parseFs (s ++ [13, 10, 13, 10])).2.2 = 0) (hk : 128 < k + 1) : (run (at3 t k) r).2.2.1 = 13 ∧ (run (at3 t k) r).1 = [] ∧ (run (at3 t k) r).2.1 = 0 := by
  have e : stepC (at3 t k) r = ([], n, 13, at3 t (k + 1)) := by
    rw [step3, h, if_neg (by simp [hn])]
    unfold tailC at3
    simp only
    rw [if_neg hs, if_neg (by simp [hp]), if_pos hk]
  rw [run_step, e]; simp
theorem run3_field (h : lineC r = (s, n, 0)) (hn : n ≠ 0) (hs : s ≠ []) (hp : (parseFs (s ++ [13, 10, 13, 10])).2.2 = 0) (hk : k + 1 ≤ 128) : run (at3 t k) r = ahead [] n (run (at3 t (k + 1)) (r.drop n)) := by
  have e : stepC (at3 t k) r = ([], n, 0, at3 t (k + 1)) := by
    rw [step3, h, if_neg (by simp [hn])]
    unfold tailC at3
    simp only
    rw [if_neg hs, if_neg (by simp [hp]), if_neg (by omega)]
  rw [run_step, e]
  simp [hn]
end

/-! Lines and sizes, as they are written. -/
theorem lineC_of {s : List UInt8} (h : ∀ c ∈ s, c ≠ 10) (hl : s.length ≤ 254) (r : List UInt8) : lineC (s ++ 13 :: 10 :: r) = (s, s.length + 2, 0) := by
  have e1 : s ++ 13 :: 10 :: r = (s ++ [13]) ++ 10 :: r := by simp
  have hf : ((s ++ 13 :: 10 :: r).take 256).findIdx? (· == 10) = some (s.length + 1) := by
    rw [e1, List.take_append, List.take_of_length_le (by simp; omega)]
    obtain ⟨m, hm⟩ : ∃ m, 256 - (s ++ [13]).length = m + 1 := ⟨254 - s.length, by simp; omega⟩
    rw [hm, List.take_succ_cons, List.findIdx?_append]
    have hn : (s ++ [13]).findIdx? (· == 10) = none := by
      rw [List.findIdx?_eq_none_iff]
      intro c hc
      rcases List.mem_append.1 hc with hc | hc
      · simpa using h c hc
      · rw [List.mem_singleton] at hc; subst hc; rfl
    rw [hn]
    simp [List.findIdx?_cons]
  unfold lineC
  rw [hf]
  simp only
  rw [if_neg]
  · rw [show s.length + 1 - 1 = s.length by omega, List.take_left' rfl]
  · rw [show s.length + 1 - 1 = s.length by omega]
    rintro (h | h)
    · omega
    · apply h
      rw [List.getElem?_append_right (Nat.le_refl _)]
      simp
theorem trim_twice (l : List UInt8) : trim (trim l) = trim l := by
  have h1 : ∀ l, trimL (trimL l) = trimL l := by
    intro l
    induction l with
    | nil => rfl
    | cons c l ih =>
      rcases hb : isBlank c with _ | _
      · rw [trimL_head hb, trimL_head hb]
      · rw [trimL_blank hb]; exact ih
  have h2 : ∀ l, trimR (trimR l) = trimR l := by intro l; unfold trimR; rw [List.reverse_reverse, h1]
  show trimL (trimR (trimL (trimR l))) = trimL (trimR l)
  rw [trim_comm (trimR l), h2, h1]
theorem plain_trim (l : List UInt8) : allOf isPlain (trim l) = allOf isPlain l := by
  have hb : ∀ c, isBlank c = true → isPlain c = true := by
    intro c h
    have := all_bytes (fun c => !isBlank c || isPlain c) (by decide +kernel) c
    simpa [h] using this
  have h1 : ∀ l, allOf isPlain (trimL l) = allOf isPlain l := by
    intro l
    induction l with
    | nil => rfl
    | cons c l ih =>
      rcases h : isBlank c with _ | _
      · rw [trimL_head h]
      · rw [trimL_blank h, ih]; simp [allOf, hb c h]
  have h2 : ∀ l : List UInt8, allOf isPlain l.reverse = allOf isPlain l := by intro l; simp [allOf]
  have h3 : ∀ l, allOf isPlain (trimR l) = allOf isPlain l := by intro l; unfold trimR; rw [h2, h1, h2]
  show allOf isPlain (trimL (trimR l)) = _
  rw [h1, h3]
theorem value_trim (l : List UInt8) : value (trim l) = allOf isPlain l := by
  unfold value
  rw [trim_twice, plain_trim]
  simp
/-- Hexadecimal digits' value. -/
def hexVal : List UInt8 → Int → Int
  | [], n => n
  | c :: l, n => hexVal l (n * 16 + dig c)
theorem p16 (k : Nat) : (1 : Int) ≤ 16 ^ k := by
  induction k with
  | zero => decide
  | succ k ih => rw [Int.pow_succ]; omega
theorem p16_le (k : Nat) (h : k ≤ 8) : (16 : Int) ^ k ≤ 4294967296 := by
  have : k = 0 ∨ k = 1 ∨ k = 2 ∨ k = 3 ∨ k = 4 ∨ k = 5 ∨ k = 6 ∨ k = 7 ∨ k = 8 := by omega
  rcases this with rfl | rfl | rfl | rfl | rfl | rfl | rfl | rfl | rfl <;> decide
theorem accN_hex (M : Int) : ∀ (l : List UInt8) (n : Int), (l.all isHex7) = true → 0 ≤ n → (n + 1) * 16 ^ l.length ≤ M + 1 → accN 16 M n l = some (hexVal l n) ∧ 0 ≤ hexVal l n ∧ hexVal l n < (n + 1) * 16 ^ l.length := by
  intro l
  induction l with
  | nil => intro n _ h0 _; exact ⟨rfl, h0, by simp [hexVal]; omega⟩
  | cons c l ih =>
    intro n hl h0 hM
    simp only [List.all_cons, Bool.and_eq_true] at hl
    have hc : dig c < 16 := by simpa [isHex7] using hl.1
    have hp := p16 l.length
    have e : (n + 1) * 16 ^ (c :: l).length = ((n + 1) * 16) * 16 ^ l.length := by rw [List.length_cons, Int.pow_succ, Int.mul_assoc, Int.mul_comm (16 ^ l.length) 16]
    rw [e] at hM ⊢
    have hle : (n * 16 + dig c + 1) * 16 ^ l.length ≤ ((n + 1) * 16) * 16 ^ l.length := Int.mul_le_mul_of_nonneg_right (by omega) (by omega)
    have hge : (n + 1) * 16 ≤ ((n + 1) * 16) * 16 ^ l.length := by
      have := Int.mul_le_mul_of_nonneg_left hp (show 0 ≤ (n + 1) * 16 by omega)
      rw [Int.mul_one] at this
      exact this
    obtain ⟨h1, h2, h3⟩ := ih (n * 16 + dig c) hl.2 (by omega) (by omega)
    refine ⟨?_, h2, Int.lt_of_lt_of_le h3 hle⟩
    unfold accN
    rw [if_neg]
    · exact h1
    · rintro (h | h)
      · omega
      · have hdd : n ≤ (M - dig c) / ((16 : Nat) : Int) := (Int.le_ediv_iff_mul_le (by omega)).2 (by omega)
        omega
theorem numR_hex {l : List UInt8} {M : Int} (hl : l.all isHex7 = true) (hn : l ≠ []) (h8 : l.length ≤ 8) (hM : 4294967295 ≤ M) : numR 16 M l = (hexVal l 0, 0) := by
  have hp := p16_le l.length h8
  have h1 := (accN_hex M l 0 hl (by omega) (by omega)).1
  have hb : badDig 16 l = false := by
    unfold badDig
    rw [List.any_eq_false]
    intro c hc
    have := List.all_eq_true.1 hl c hc
    simp only [isHex7, decide_eq_true_eq] at this
    simp; omega
  unfold numR
  rw [if_neg hn, hb, if_neg (by simp), if_neg (by omega), h1]
  rfl
theorem hexHead_all (s : List UInt8) : (hexHead s).all isHex7 = true ∧ (hexHead s).length ≤ 8 := by
  unfold hexHead
  constructor
  · exact List.all_takeWhile
  · have := (List.takeWhile_prefix (p := isHex7) (l := s.take 8)).length_le
    rw [List.length_take] at this; omega
/-- A size, written. -/
theorem sizeC_of {h e : List UInt8} (hh : h.all isHex7 = true) (hn : h ≠ []) (h8 : h.length ≤ 8) (he : extC e = true) (h0 : ∀ c, e.head? = some c → isHex7 c = false) : sizeC (h ++ e) = hexVal h 0 := by
  have hH : hexHead (h ++ e) = h := by
    unfold hexHead
    rw [List.take_append, List.take_of_length_le h8]
    have key : ∀ (h : List UInt8) (x : List UInt8), h.all isHex7 = true → (∀ c, x.head? = some c → isHex7 c = false) → (h ++ x).takeWhile isHex7 = h := by
      intro h x
      induction h with
      | nil =>
        intro _ hx
        cases x with
        | nil => rfl
        | cons c x => simp [hx c rfl]
      | cons c h ih =>
        intro ha hx
        simp only [List.all_cons, Bool.and_eq_true] at ha
        simp [ha.1, ih ha.2 hx]
    refine key h _ hh ?_
    intro c hc
    refine h0 c ?_
    cases e with
    | nil => simp at hc
    | cons d e =>
      cases hk : 8 - h.length with
      | zero => rw [hk] at hc; simp at hc
      | succ m => rw [hk] at hc; simpa using hc
  unfold sizeC
  rw [hH, numR_hex hh hn h8 (by omega), List.drop_left' rfl, he]
  simp
end IH
