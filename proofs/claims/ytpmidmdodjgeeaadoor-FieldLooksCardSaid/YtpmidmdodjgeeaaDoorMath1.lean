/- Layer 1 in plain Lean: octets, tokens, trimming, small letters. No program in sight; no condition. -/
namespace IH

/-- A letter or a digit. -/
def isLetter (c : UInt8) : Bool := (97 ≤ c.toNat && c.toNat ≤ 122) || (65 ≤ c.toNat && c.toNat ≤ 90) || (48 ≤ c.toNat && c.toNat ≤ 57)
def isPlain (c : UInt8) : Bool := (32 ≤ c.toNat && !(c.toNat == 127)) || c.toNat == 9
def allOf (p : UInt8 → Bool) (l : List UInt8) : Bool := l.all p
def marks : List UInt8 := [33, 35, 36, 37, 38, 39, 42, 43, 45, 46, 94, 95, 96, 124, 126]
def isMark (c : UInt8) : Bool := marks.contains c
def isTchar (c : UInt8) : Bool := isLetter c || isMark c
def isBlank (c : UInt8) : Bool := c.toNat == 32 || c.toNat == 9
def token (l : List UInt8) : Bool := !l.isEmpty && allOf isTchar l
def trimL (l : List UInt8) : List UInt8 := l.dropWhile isBlank
def trimR (l : List UInt8) : List UInt8 := (trimL l.reverse).reverse
def trim (l : List UInt8) : List UInt8 := trimL (trimR l)
def value (l : List UInt8) : Bool := allOf isPlain l && (trim l == l)
def lowerC (c : UInt8) : UInt8 := if 65 ≤ c.toNat && c.toNat ≤ 90 then c + 32 else c
def lower (l : List UInt8) : List UInt8 := l.map lowerC

theorem trimL_blank {c : UInt8} {l : List UInt8} (h : isBlank c = true) : trimL (c :: l) = trimL l := by simp [trimL, h]
theorem trimL_head {c : UInt8} {l : List UInt8} (h : isBlank c = false) : trimL (c :: l) = c :: l := by simp [trimL, h]
theorem trimL_nil : trimL [] = [] := rfl
theorem trimR_nil : trimR [] = [] := rfl
theorem trimR_blank {c : UInt8} {l : List UInt8} (h : isBlank c = true) : trimR (l ++ [c]) = trimR l := by
  simp [trimR, trimL_blank h]
theorem trimR_last {c : UInt8} {l : List UInt8} (h : isBlank c = false) : trimR (l ++ [c]) = l ++ [c] := by
  simp [trimR, trimL_head h]
theorem trimR_cons (c : UInt8) (l : List UInt8) : trimR (c :: l) = if trimR l = [] then (if isBlank c then [] else [c]) else c :: trimR l := by
  unfold trimR trimL
  simp only [List.reverse_cons, List.dropWhile_append, List.reverse_eq_nil_iff]
  by_cases h : List.dropWhile isBlank l.reverse = []
  · by_cases hb : isBlank c <;> simp [h, hb]
  · simp [h]
theorem trim_comm (l : List UInt8) : trimR (trimL l) = trimL (trimR l) := by
  induction l with
  | nil => rfl
  | cons c l ih =>
    by_cases hb : isBlank c
    · rw [trimL_blank hb, ih, trimR_cons]
      by_cases h : trimR l = []
      · simp [h, hb, trimL_nil]
      · simp [h, trimL_blank hb]
    · have hb' : isBlank c = false := by simpa using hb
      rw [trimL_head hb', trimR_cons]
      by_cases h : trimR l = []
      · simp [h, hb', trimL_head hb']
      · simp [h, trimL_head hb']
theorem dropWhile_length_le (p : UInt8 → Bool) (l : List UInt8) : (l.dropWhile p).length ≤ l.length := (List.dropWhile_suffix p).length_le
theorem trimL_length (l : List UInt8) : (trimL l).length ≤ l.length := dropWhile_length_le _ _
theorem trimR_length (l : List UInt8) : (trimR l).length ≤ l.length := by
  have := dropWhile_length_le isBlank l.reverse
  simp [trimR, trimL] at *; exact this
theorem trim_length (l : List UInt8) : (trim l).length ≤ l.length := Nat.le_trans (trimL_length _) (trimR_length _)

/-- A text is what is left of it trimmed, just if no blank stands at its ends. -/
theorem trim_eq_nil (l : List UInt8) : l = [] ∨ (∃ c m, l = c :: m) := by cases l <;> simp
theorem trim_self {l : List UInt8} : trim l = l ↔ (∀ c, l.head? = some c → isBlank c = false) ∧ (∀ c, l.getLast? = some c → isBlank c = false) := by
  constructor
  · intro h
    have hl : (trim l).length = l.length := by rw [h]
    constructor
    · intro c hc
      cases l with
      | nil => simp at hc
      | cons d m =>
        simp at hc; subst hc
        by_cases hb : isBlank d = false
        · exact hb
        · have hb' : isBlank d = true := by simpa using hb
          have e : trim (d :: m) = trim m := by unfold trim; rw [← trim_comm, ← trim_comm, trimL_blank hb']
          rw [e] at hl
          have := trim_length m
          simp at hl; omega
    · intro c hc
      rcases List.eq_nil_or_concat l with rfl | ⟨m, d, rfl⟩
      · simp at hc
      · rw [List.concat_eq_append] at *
        simp at hc; subst hc
        by_cases hb : isBlank d = false
        · exact hb
        · have hb' : isBlank d = true := by simpa using hb
          have e : trim (m ++ [d]) = trim m := by unfold trim; rw [trimR_blank hb']
          rw [e] at hl
          have := trim_length m
          simp at hl; omega
  · rintro ⟨h1, h2⟩
    unfold trim
    have e : trimR l = l := by
      rcases List.eq_nil_or_concat l with rfl | ⟨m, d, rfl⟩
      · rfl
      · rw [List.concat_eq_append] at *
        exact trimR_last (h2 d (by simp))
    rw [e]
    cases l with
    | nil => rfl
    | cons d m => exact trimL_head (h1 d (by simp))
end IH
