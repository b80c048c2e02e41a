/- Layer 7 in plain Lean: a size line as long as may be, and longer. No program in sight; no condition. -/
import Derived.Test.YtefoaldpllnijaaDoorChk3
import Derived.Test.YtefoaldpllnijaaDoorFld2
namespace IH
set_option maxRecDepth 100000

theorem lineC_long {b : List UInt8} (h : ∀ c ∈ b.take 256, c ≠ 10) (hl : 256 ≤ b.length) : lineC b = ([], 0, 12) := by
  have hn : (b.take 256).findIdx? (· == 10) = none := by
    rw [List.findIdx?_eq_none_iff]
    intro c hc
    simpa using h c hc
  unfold lineC
  rw [hn]
  simp only
  rw [if_pos hl]
theorem ext_size (n : Nat) : sizeC ([49] ++ 59 :: xs n) = 1 := by
  have he : extC (59 :: xs n) = true := by
    unfold extC
    have : (59 :: xs n).dropWhile isBlank = 59 :: xs n := by rw [List.dropWhile_cons, if_neg (by decide)]
    simp only
    rw [this]
    simp only
    rw [value_trim]
    have hv := xs_value n
    simp only [value, Bool.and_eq_true] at hv
    rw [hv.1]; rfl
  have := sizeC_of (h := [49]) (e := 59 :: xs n) (by decide) (by simp) (by simp) he (by intro c hc; simp at hc; subst hc; decide)
  rw [this]; decide
/-- "1;xx..x", "a", "0", "" -/
def extB7 (n : Nat) : List UInt8 := ([49] ++ 59 :: xs n) ++ 13 :: 10 :: ([97] ++ 13 :: 10 :: ([48] ++ 13 :: 10 :: 13 :: 10 :: []))
theorem ext_run (n : Nat) : (run Dec.new (extB7 n)).2.2.1 = (if n ≤ 252 then 0 else 12) ∧ (n ≤ 252 → (run Dec.new (extB7 n)).2.2.2.w = 4) := by
  have hno : ∀ c ∈ [49] ++ 59 :: xs n, c ≠ 10 := by
    intro c hc
    simp only [List.mem_append, List.mem_cons, List.not_mem_nil, or_false] at hc
    rcases hc with rfl | rfl | hc
    · decide
    · decide
    · rw [(List.mem_replicate.1 hc).2]; decide
  have hl : ([49] ++ 59 :: xs n).length = n + 2 := by simp [xs_length]
  have e0 : at0 0 = Dec.new := rfl
  by_cases h : n ≤ 252
  · have h1 := chunk_run (s := [49] ++ 59 :: xs n) (p := [97]) (r := [48] ++ 13 :: 10 :: 13 :: 10 :: []) (t := 0) hno (by omega) (by rw [ext_size]; rfl) (by simp) (by simp)
    have h2 := end_run (s := [48]) (r := []) (t := 0 + (([97] : List UInt8).length : Int)) (by decide) (by decide) (by decide)
    rw [e0] at h1
    unfold extB7
    rw [h1, h2, if_pos h]
    exact ⟨rfl, fun _ => rfl⟩
  · rw [if_neg h]
    refine ⟨?_, fun h' => absurd h' h⟩
    have hL : lineC (extB7 n) = ([], 0, 12) := by
      refine lineC_long ?_ ?_
      · intro c hc
        have ht : (extB7 n).take 256 = (([49] ++ 59 :: xs n) ++ [13]).take 256 := by
          unfold extB7
          rw [show ([49] ++ 59 :: xs n) ++ 13 :: 10 :: ([97] ++ 13 :: 10 :: ([48] ++ 13 :: 10 :: 13 :: 10 :: [])) = (([49] ++ 59 :: xs n) ++ [13]) ++ (10 :: ([97] ++ 13 :: 10 :: ([48] ++ 13 :: 10 :: 13 :: 10 :: []))) by simp]
          rw [List.take_append_of_le_length (by simp only [List.length_append, List.length_cons, List.length_nil, xs_length] at hl ⊢; omega)]
        rw [ht] at hc
        rcases List.mem_append.1 (List.mem_of_mem_take hc) with hc | hc
        · exact hno c hc
        · rw [List.mem_singleton] at hc; subst hc; decide
      · unfold extB7
        rw [List.length_append, hl]
        simp
        omega
    have := run0_err (t := 0) (r := extB7 n) (by rw [hL]; decide)
    rw [e0, hL] at this
    rw [this]
end IH
