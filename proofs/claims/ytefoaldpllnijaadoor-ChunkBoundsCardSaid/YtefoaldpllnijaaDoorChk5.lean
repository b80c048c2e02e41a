/- Layer 7 in plain Lean: bounds of what a decoder tells; a chunked body, decoded; a size line's parts. No program in sight; no condition. -/
import Derived.Test.YtefoaldpllnijaaDoorChk2
namespace IH
set_option maxRecDepth 100000
theorem step_out (d : Dec) (b : List UInt8) : (stepC d b).1.length ≤ (stepC d b).2.1 := by
  unfold stepC
  split
  · simp only [List.length_take]; omega
  · split
    · split
      · simp
      · split <;> simp
    · split
      · simp
      · split <;> simp
theorem run_out : ∀ (k : Nat) (d : Dec) (b : List UInt8), b.length ≤ k → (run d b).1.length ≤ (run d b).2.1 := by
  intro k
  induction k with
  | zero =>
    intro d b hb
    have hle := stepC_le (d := d) (b := b)
    have ho := step_out d b
    rw [run_step]
    split
    · simp
    · rw [if_pos (by omega)]; simp only; omega
  | succ k ih =>
    intro d b hb
    have hle := stepC_le (d := d) (b := b)
    have ho := step_out d b
    rw [run_step]
    split
    · simp
    · split
      · simp only; omega
      · rename_i h0
        unfold ahead
        split
        · simp
        · have := ih (stepC d b).2.2.2 (b.drop (stepC d b).2.1) (by rw [List.length_drop]; omega)
          simp only [List.length_append]
          omega
/-- A decoder's numbers within bounds. -/
structure DecIn (d : Dec) : Prop where
  w0 : 0 ≤ d.w
  w1 : d.w ≤ 4
  l0 : 0 ≤ d.left
  l1 : d.left ≤ 1048576
  t0 : 0 ≤ d.total
  t1 : d.total ≤ 1048576
  f0 : 0 ≤ d.fields
  f1 : d.fields ≤ 128
theorem new_in : DecIn Dec.new := by constructor <;> simp [Dec.new]
theorem begin_in {d : Dec} (h : DecIn d) (s : List UInt8) : DecIn (beginC d s).2 := by
  obtain ⟨a1, a2, a3, a4, a5, a6, a7, a8⟩ := h
  unfold beginC
  split
  · exact ⟨a1, a2, a3, a4, a5, a6, a7, a8⟩
  · split
    · exact ⟨by simp, by simp, a3, a4, a5, a6, a7, a8⟩
    · split
      · exact ⟨a1, a2, a3, a4, a5, a6, a7, a8⟩
      · exact ⟨by simp, by simp, by simp only; omega, by simp only; omega, by simp only; omega, by simp only; omega, a7, a8⟩
theorem tail_in {d : Dec} (h : DecIn d) (s : List UInt8) (h0 : (tailC d s).1 = 0) : DecIn (tailC d s).2 := by
  obtain ⟨a1, a2, a3, a4, a5, a6, a7, a8⟩ := h
  unfold tailC at h0 ⊢
  split
  · exact ⟨by simp, by simp, a3, a4, a5, a6, a7, a8⟩
  · rename_i h1
    rw [if_neg h1] at h0
    split
    · exact ⟨a1, a2, a3, a4, a5, a6, a7, a8⟩
    · rename_i h2
      rw [if_neg h2] at h0
      simp only at h0
      split at h0
      · simp at h0
      · exact ⟨a1, a2, a3, a4, a5, a6, by simp only; omega, by simp only; omega⟩
theorem step_in {d : Dec} (h : DecIn d) (b : List UInt8) (h0 : (stepC d b).2.2.1 = 0) : DecIn (stepC d b).2.2.2 := by
  obtain ⟨a1, a2, a3, a4, a5, a6, a7, a8⟩ := h
  unfold stepC at h0 ⊢
  split
  · refine ⟨?_, ?_, by simp only; omega, by simp only; omega, a5, a6, a7, a8⟩
    · simp only; split <;> omega
    · simp only; split <;> omega
  · rename_i h1
    rw [if_neg h1] at h0
    split
    · rename_i h2
      rw [if_pos h2] at h0
      split
      · exact ⟨a1, a2, a3, a4, a5, a6, a7, a8⟩
      · rename_i h3
        rw [if_neg h3] at h0
        split
        · exact ⟨a1, a2, a3, a4, a5, a6, a7, a8⟩
        · exact ⟨by simp, by simp, a3, a4, a5, a6, a7, a8⟩
    · rename_i h2
      rw [if_neg h2] at h0
      split
      · exact ⟨a1, a2, a3, a4, a5, a6, a7, a8⟩
      · rename_i h3
        rw [if_neg h3] at h0
        split
        · exact ⟨a1, a2, a3, a4, a5, a6, a7, a8⟩
        · rename_i h4
          rw [if_neg h4] at h0
          simp only at h0 ⊢
          by_cases hw : d.w = 0
          · rw [if_pos hw]
            exact begin_in ⟨a1, a2, a3, a4, a5, a6, a7, a8⟩ _
          · rw [if_neg hw] at h0 ⊢
            exact tail_in ⟨a1, a2, a3, a4, a5, a6, a7, a8⟩ _ h0
theorem run_in : ∀ (k : Nat) (d : Dec) (b : List UInt8), b.length ≤ k → DecIn d → (run d b).2.2.1 = 0 → DecIn (run d b).2.2.2 := by
  intro k
  induction k with
  | zero =>
    intro d b hb hd h
    have hle := stepC_le (d := d) (b := b)
    rw [run_step] at h ⊢
    split
    · rename_i h1; rw [if_pos h1] at h; exact absurd h h1
    · rename_i h1
      rw [if_pos (by omega)]
      exact step_in hd b (by simpa using h1)
  | succ k ih =>
    intro d b hb hd h
    have hle := stepC_le (d := d) (b := b)
    rw [run_step] at h ⊢
    split
    · rename_i h1; rw [if_pos h1] at h; exact absurd h h1
    · rename_i h1
      rw [if_neg h1] at h
      split
      · exact step_in hd b (by simpa using h1)
      · rename_i h0
        rw [if_neg h0] at h
        unfold ahead at h ⊢
        split
        · rename_i h2; rw [if_pos h2] at h; exact absurd h h2
        · rename_i h2
          exact ih _ _ (by rw [List.length_drop]; omega) (step_in hd b (by simpa using h1)) (by simpa using h2)
theorem step_fault (d : Dec) (b : List UInt8) : (stepC d b).2.2.2.fault = d.fault := by
  unfold stepC beginC tailC
  simp only
  split
  · rfl
  · split
    · split
      · rfl
      · split <;> rfl
    · split
      · rfl
      · split
        · rfl
        · split
          · split
            · rfl
            · split
              · rfl
              · split <;> rfl
          · split
            · rfl
            · split <;> rfl
theorem run_fault : ∀ (k : Nat) (d : Dec) (b : List UInt8), b.length ≤ k → d.fault = 0 → (run d b).2.2.2.fault = (run d b).2.2.1 := by
  intro k
  induction k with
  | zero =>
    intro d b hb hd
    have hle := stepC_le (d := d) (b := b)
    rw [run_step]
    split
    · rfl
    · rw [if_pos (by omega)]; exact (step_fault d b).trans hd
  | succ k ih =>
    intro d b hb hd
    have hle := stepC_le (d := d) (b := b)
    rw [run_step]
    split
    · rfl
    · split
      · exact (step_fault d b).trans hd
      · rename_i h0
        have := ih (stepC d b).2.2.2 (b.drop (stepC d b).2.1) (by rw [List.length_drop]; omega) ((step_fault d b).trans hd)
        unfold ahead
        split
        · exact this
        · rename_i h2
          simp only at h2 ⊢
          rw [this]; simpa using h2
/-- A chunked body at the beginning: its octets, how long it is, the error. -/
def decodeL (l : List UInt8) : List UInt8 × Nat × Int :=
  if (run Dec.new l).2.2.1 ≠ 0 then ([], 0, (run Dec.new l).2.2.1) else if (run Dec.new l).2.2.2.w ≠ 4 then ([], 0, 11) else ((run Dec.new l).1, (run Dec.new l).2.1, 0)
/-- What stands behind a size, blanks struck. -/
def extR (u : List UInt8) : Bool := match u with
  | c :: r => c == 59 && allOf isPlain r
  | [] => false
theorem extC_R {x : List UInt8} (h : x ≠ []) : extC x = extR (x.dropWhile isBlank) := by
  unfold extC extR
  cases x with
  | nil => exact absurd rfl h
  | cons a b =>
    simp only
    cases (a :: b).dropWhile isBlank with
    | nil => rfl
    | cons c r => simp only; rw [value_trim]
theorem same_num (s : List UInt8) : numR 16 4294967296 (hexHead s) = numR 16 4294967295 (hexHead s) := by
  obtain ⟨h1, h2⟩ := hexHead_all s
  by_cases h : hexHead s = []
  · rw [h]; rfl
  · rw [numR_hex h1 h h2 (by omega), numR_hex h1 h h2 (by omega)]
theorem lineC_short (l : List UInt8) : (lineC l).1.length ≤ 256 := by
  unfold lineC
  split
  · split <;> simp
  · rename_i n hn
    have := findIdx_lt hn
    rw [List.length_take] at this
    split
    · simp
    · simp only [List.length_take]; omega
end IH
