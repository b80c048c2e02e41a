/- Layer 1 in plain Lean: what is trimmed stays so, small letters, tokens are values. No program in sight; no condition. -/
import Derived.Test.YtamoebdfppjbkaaDoorMath3
namespace IH

theorem trimL_idem (l : List UInt8) : trimL (trimL l) = trimL l := by
  induction l with
  | nil => rfl
  | cons c l ih =>
    by_cases h : isBlank c = true
    · rw [trimL_blank h, ih]
    · have h' : isBlank c = false := by simpa using h
      rw [trimL_head h', trimL_head h']
theorem trimR_idem (l : List UInt8) : trimR (trimR l) = trimR l := by
  unfold trimR
  rw [List.reverse_reverse, trimL_idem]
theorem trim_idem (l : List UInt8) : trim (trim l) = trim l := by
  unfold trim
  rw [trim_comm, trimL_idem, trimR_idem]
theorem trimL_allBlank {b : List UInt8} (h : ∀ c ∈ b, isBlank c = true) (l : List UInt8) : trimL (b ++ l) = trimL l := by
  induction b with
  | nil => rfl
  | cons c b ih =>
    rw [List.cons_append, trimL_blank (h c (by simp)), ih fun x hx => h x (by simp [hx])]
theorem trimR_allBlank {b : List UInt8} (h : ∀ c ∈ b, isBlank c = true) (l : List UInt8) : trimR (l ++ b) = trimR l := by
  unfold trimR
  rw [List.reverse_append, trimL_allBlank fun c hc => h c (List.mem_reverse.1 hc)]
theorem trimL_nil_all {b : List UInt8} (h : trimL b = []) : ∀ c ∈ b, isBlank c = true := by
  induction b with
  | nil => simp
  | cons c b ih =>
    by_cases hc : isBlank c = true
    · rw [trimL_blank hc] at h
      intro x hx
      rcases List.mem_cons.1 hx with rfl | hx
      · exact hc
      · exact ih h x hx
    · have h' : isBlank c = false := by simpa using hc
      rw [trimL_head h'] at h
      cases h
theorem trim_nil_all {b : List UInt8} (h : trim b = []) : ∀ c ∈ b, isBlank c = true := by
  unfold trim at h
  have h1 := trimL_nil_all h
  have h2 : trimR b = [] := by
    rcases List.eq_nil_or_concat (trimR b) with h | ⟨m, d, h3⟩
    · exact h
    · exfalso
      rw [List.concat_eq_append] at h3
      have h4 := trimR_idem b
      rw [h3] at h4
      have h5 := h1 d (by rw [h3]; simp)
      rw [trimR_blank h5] at h4
      have h6 := congrArg List.length h4
      have h7 := trimR_length m
      simp at h6
      omega
  unfold trimR at h2
  intro c hc
  exact trimL_nil_all (List.reverse_eq_nil_iff.1 h2) c (List.mem_reverse.2 hc)
theorem trim_around {b : List UInt8} (h : trim b = []) (l : List UInt8) : trim (b ++ l ++ b) = trim l := by
  have hb := trim_nil_all h
  unfold trim
  rw [trimR_allBlank hb, ← trim_comm, trimL_allBlank hb, trim_comm]
theorem lowerC_idem (c : UInt8) : lowerC (lowerC c) = lowerC c := by
  have := all_bytes (fun c => lowerC (lowerC c) == lowerC c) (by decide +kernel) c
  exact eq_of_beq this
theorem lower_idem (l : List UInt8) : lower (lower l) = lower l := by
  unfold lower
  rw [List.map_map]
  apply List.map_congr_left
  intro c _
  exact lowerC_idem c
theorem lower_length (l : List UInt8) : (lower l).length = l.length := by simp [lower]
theorem tchar_plain (c : UInt8) (h : isTchar c = true) : isPlain c = true ∧ isBlank c = false ∧ isTchar (lowerC c) = true := by
  have := all_bytes (fun c => !isTchar c || (isPlain c && !isBlank c && isTchar (lowerC c))) (by decide +kernel) c
  simp [h] at this
  exact ⟨this.1.1, this.1.2, this.2⟩
theorem token_value (l : List UInt8) (h : token l = true) : value l = true ∧ token (lower l) = true := by
  simp only [token, Bool.and_eq_true, Bool.not_eq_true', allOf, List.all_eq_true, List.isEmpty_eq_false_iff] at h
  obtain ⟨h0, h1⟩ := h
  constructor
  · simp only [value, Bool.and_eq_true, allOf, List.all_eq_true, beq_iff_eq]
    refine ⟨fun c hc => (tchar_plain c (h1 c hc)).1, trim_self.2 ⟨fun c hc => ?_, fun c hc => ?_⟩⟩
    · exact (tchar_plain c (h1 c (List.mem_of_head? hc))).2.1
    · exact (tchar_plain c (h1 c (List.mem_of_getLast? hc))).2.1
  · simp only [token, Bool.and_eq_true, Bool.not_eq_true', allOf, List.all_eq_true, List.isEmpty_eq_false_iff]
    refine ⟨by simpa [lower] using h0, fun c hc => ?_⟩
    obtain ⟨d, hd, rfl⟩ := List.mem_map.1 hc
    exact (tchar_plain d (h1 d hd)).2.2
end IH
